/- LzFar's walk: what stood at most 65535 places ahead is used again, and what stood further ahead is not. -/
import Derived.Test.YtglpdkcpnigniaaLzPacks
import Derived.Test.YtglpdkcpnigniaaLzUnpack
import Derived.Lib.AppendStr
namespace Go.Proofs.Ytglpdkcpnigniaa
open Go.RowKit Go.ChangeShapes Go.WideShapes Go.ChangeAt
set_option linter.unusedVariables false

/-- Bytes of the call's own; or a new slice without room. -/
def App (w : World) (base : Nat) (v : Value) (bs : List UInt8) : Prop :=
  Own w base v bs ∨ ∃ g, v = .slice (some ⟨g, 0, none⟩) bs.length bs.length ∧ Rd w v bs ∧ bs.length ≤ 8 ∧ 0 < bs.length

theorem App.alloc {w : World} {base : Nat} {v : Value} {bs : List UInt8} (h : App w base v bs) (o : Obj) : App (w.alloc o) base v bs := by
  rcases h with h | ⟨g, h1, h2, h3⟩
  · exact .inl (World.ownsRow.alloc h o)
  · exact .inr ⟨g, h1, RdV.alloc h2.v o, h3⟩

theorem App.shape {w : World} {base : Nat} {v : Value} {bs : List UInt8} (h : App w base v bs) : ∃ ao cap, v = .slice ao bs.length cap := by
  rcases h with h | ⟨g, h1, _⟩
  · exact h.shape
  · exact ⟨_, _, h1⟩

theorem wpList_append_app (w : World) {ops : Array Oper} {rest : List Oper} {o : Oper} {a : Act} {Q : Exit → Act → World → Prop} (hgd : o.guard = none) (s x : Operand)
    (ho : o.op = .call { callee := .builtin .append, args := #[s, x], argTypes := #[22, 22] })
    (base : Nat) (v : Value) (bs : List UInt8) (hs : a.eval s = v) (happ : App w base v bs)
    (xv : Value) (ns : List UInt8) (hx : a.eval x = xv) (hrd : Rd w xv ns) (hns : 0 < ns.length)
    (h63 : bs.length + ns.length ≤ 140737488355328) (hbase : base ≤ w.heap.size)
    (h : ∀ ao cap w', Own w' base (.slice ao (bs ++ ns).length cap) (bs ++ ns) → Below base w w' → wpList Try.prog ops Q rest (a.put o.dst (.slice ao (bs ++ ns).length cap)) w') : wpList Try.prog ops Q (o :: rest) a w := by
  have h63' : bs.length + ns.length ≤ maxLen := by unfold maxLen; omega
  rcases happ with hown | ⟨g, rfl, hr, hl8, hl0⟩
  · refine wpList_append_rd w hgd s x 22 ho base 5 (.int .u8 0) 1 1 Try.underlying22 infoU8 rfl (by decide) v bs.length (bs.map bV) hs hown xv ns.length (ns.map bV) hx hrd.v (bV_one _) h63' (by omega) hbase (fun ao cap w' hg => ?_)
    have e : (bs ++ ns).length = bs.length + ns.length := List.length_append
    have hg' := hg
    rw [← e, ← List.map_append] at hg'
    rw [← e]
    exact h ao cap w' hg'.owns (hg.below hbase (fun k hk => (hown.lt k hk).1))
  · obtain ⟨i, hi, hz, hsize, hby⟩ := info_parts infoU8
    obtain ⟨b', off', c', rfl, hnc, hcm, hbl, hcc⟩ := RdV.some hrd.v hns (by decide)
    obtain ⟨b2, off2, c2, he, _, _, _, hc2⟩ := RdV.some hr.v hl0 (by decide)
    simp only [Value.slice.injEq, Option.some.injEq, Addr.mk.injEq, true_and, and_true] at he
    obtain ⟨⟨rfl, rfl⟩, rfl⟩ := he
    obtain ⟨v', w', hrun, hown, hgr⟩ := run_append_arg_grows (P := Try.prog) w 22 o.type 5 i (.int .u8 0) 1 1 Try.underlying22 hi hz hsize hby rfl (by decide) ⟨g, 0, none⟩ bs.length bs.length (bs.map bV) (by simp) (fun j u hu => by rw [Addr.add_lit]; exact hc2 j u hu)
      ⟨b', off', none⟩ ns.length c' (ns.map bV) (by simp) (fun j u hu => by rw [Addr.add_lit]; exact hcc j u hu) (by omega) h63' (by omega)
    obtain ⟨ao, cap, rfl⟩ := ownsRow_shape hown
    have e : (bs ++ ns).length = bs.length + ns.length := List.length_append
    have ho' : Own w' base (.slice ao (bs ++ ns).length cap) (bs ++ ns) := by unfold Own; rw [e, List.map_append]; exact ownsRow_mono hown hbase
    have hbl' : Below base w w' := ((Chg.refl (fun _ => False) w).grown hgr (fun k _ h => by cases h)).below hbase (fun _ h => h.elim)
    refine wpList_plain hgd fun K hK => ?_
    unfold Oper.wp execOp
    simp only [ho, resolve, invoke, builtin, Sem.run_bind, Sem.run_pure, Result.andThen_ok, List.map_toArray, List.map_cons, List.map_nil, hs, hx, hrun]
    have := h ao cap w' ho' hbl'
    rw [e] at this
    exact hK _ _ this

theorem or128 (x : Int) (h1 : 0 ≤ x) (h2 : x < 256) : ∃ y : UInt8, bits .or .u8 x 128 = (y.toNat : Int) := by
  rw [u8_or _ _ h1 h2 (by omega) (by omega)]
  have h3 : x.toNat ||| (128 : Int).toNat < 2 ^ 8 := Nat.or_lt_two_pow (by omega) (by decide)
  exact ⟨UInt8.ofNat (x.toNat ||| (128 : Int).toNat), by rw [UInt8.toNat_ofNat', Nat.mod_eq_of_lt h3]⟩

set_option maxHeartbeats 2000000 in
set_option maxRecDepth 100000 in
theorem lzFar_run (x : Nat) (hx : x < 256) (w : World) :
    Calls Try.prog 5 #[.int .u8 (x : Int)] w fun e w' => e = .returned (.bool true) ∧ Below w.heap.size w w' := by
  obtain ⟨i0, hi0, hz0, hz1, hz2⟩ := info_parts infoU8
  go_enter Try.func5, Try.ntmps5
  go_wp2_with fail
  refine (awake_any w).mono ?_
  rintro e w1 ⟨rfl, hb1⟩
  have HB1 := Lib.hid hb1
  clear hb1
  obtain ⟨F, hF⟩ : ∃ F, F = 65520 + x % 30 := ⟨_, rfl⟩
  have HF := Lib.hid hF
  have hF1 : 65520 ≤ F := by omega
  have hF2 : F ≤ 65549 := by omega
  clear hF
  have HR := Lib.hid (RdV.litm w1 #[.int .u8 97, .int .u8 98, .int .u8 99, .int .u8 100, .int .u8 101, .int .u8 102, .int .u8 103, .int .u8 104] 5 (8, 9) 8 1 (by decide) rfl)
  have HB2 := Lib.hid (HB1.out.alloc HB1.out.size (.cells #[.int .u8 97, .int .u8 98, .int .u8 99, .int .u8 100, .int .u8 101, .int .u8 102, .int .u8 103, .int .u8 104] 5 (8, 9)))
  have hcv := Lib.run_convert_bytes_const (P := Try.prog) w1 22 5 #[.int .u8 97, .int .u8 98, .int .u8 99, .int .u8 100, .int .u8 101, .int .u8 102, .int .u8 103, .int .u8 104] 8 8 Try.underlying22 Try.underlying5
  go_upto_region 4 with fail
  rw [show (65520 : Int) + (x : Int) % 30 = (F : Int) by have := HF.out; omega]
  go_wp2_with fail
  clear hcv
  generalize w1.alloc (.cells #[.int .u8 97, .int .u8 98, .int .u8 99, .int .u8 100, .int .u8 101, .int .u8 102, .int .u8 103, .int .u8 104] 5 (8, 9)) = w2 at *
  go_loopg [4, 5] F (fun m s4 s5 wr => ∃ (y : Int) (bs : List UInt8) (ao : Option Addr) (cap : Nat), bs.length + m = F + 8 ∧ s5 = .int .u32 y ∧ s4 = .slice ao bs.length cap ∧ Hid (App wr w.heap.size (.slice ao bs.length cap) bs) ∧ Hid (Below w.heap.size w wr))
  case atStart => exact ⟨1, [97, 98, 99, 100, 101, 102, 103, 104], _, 8, by simp; omega, rfl, rfl, Lib.hid (.inr ⟨_, rfl, HR.out, by simp, by simp⟩), HB2⟩
  case round =>
    obtain ⟨y, bs, ao, cap, hm, rfl, rfl, hA, hB⟩ := hrel
    have hM := Lib.hid hm
    have hBs := hB.out.size
    by_cases hlt : bs.length < F
    · obtain ⟨z, hz⟩ := or128 ((y * 1664525 + 1013904223) % 4294967296 / 16777216) (by omega) (by omega)
      have hbl : bs.length + 1 ≤ 140737488355328 := by omega
      have hba : ∀ o, w.heap.size ≤ (wr.alloc o).heap.size := fun o => by simp; omega
      clear hm
      go_wp2_with (at_builtin; refine wpList_append_app _ rfl (.tmp 25) (.tmp 30) rfl w.heap.size (.slice ao bs.length cap) bs rfl (hA.out.alloc _) (.slice (some ⟨wr.heap.size, 0, none⟩) 1 1) [z] rfl (RdV.one wr (bV z) 5) (Nat.succ_pos 0) hbl (hba _) ?_; intro ao6 cap6 w6 ho6 hb6; have HO6 := Lib.hid ho6; have HB6 := Lib.hid hb6; clear ho6 hb6)
      go_roundg (gk - 1)
      case measure => go_light; have := hM.out; omega
      case rel =>
        go_light
        have := hM.out
        exact ⟨_, bs ++ [z], ao6, cap6, by simp; omega, rfl, by rw [List.length_append]; rfl, Lib.hid (.inl HO6.out), Lib.hid ((hB.out.alloc hBs _).trans HB6.out)⟩
    · clear hm
      have hO : Own wr w.heap.size (.slice ao bs.length cap) bs := by
        rcases hA.out with h | ⟨g, _, _, h8, _⟩
        · exact h
        · omega
      have hbl : bs.length ≤ F + 8 := by have := hM.out; omega
      have h63 : bs.length + 8 ≤ maxLen := by unfold maxLen; omega
      go_wp2_with (at_builtin; (refine Lib.wpList_append_own_string _ rfl _ _ 22 9 rfl w.heap.size 5 i0 Try.underlying22 Try.underlying9 hi0 hz0 hz1 hz2 _ bs.length (bs.map bV) rfl hO ⟨#[97, 98, 99, 100, 101, 102, 103, 104]⟩ rfl h63 (show bs.length + 8 ≤ 140737488355328 by omega) hBs ?_); intro v6 w6 ho6 hg6 _; obtain ⟨cs, hcs⟩ : ∃ cs, cs = bs ++ [97, 98, 99, 100, 101, 102, 103, 104] := ⟨_, rfl⟩; have ho7 : Own w6 w.heap.size v6 cs := (by subst hcs; unfold Own; rw [List.length_append, List.map_append]; exact ho6); obtain ⟨ao6, cap6, rfl⟩ := ho7.shape; have HO6 := Lib.hid ho7; have HG6 := Lib.hid hg6; have HCS := Lib.hid hcs; clear ho6 hg6 hcs ho7)
      have hcl : cs.length ≤ 1000000 := by rw [HCS.out]; simp; omega
      have HB6 := Lib.hid (hB.out.trans (((Chg.refl _ wr).grown HG6.out (fun k _ h => h)).below hBs (fun k h => (hO.lt k h).1)))
      obtain ⟨P, hP⟩ : ∃ P, P = pk cs 0 0 := ⟨_, rfl⟩
      have hPl : P.length ≤ 4000000 := by have := pk_len cs 0 0 (Nat.le_refl _) (Nat.zero_le _); rw [hP]; omega
      have hPD : Dec cs 0 P := by rw [hP]; exact dec_pk cs _ 0 0 rfl (Nat.le_refl _) (Nat.zero_le _)
      have hK := pack_any cs _ w6 hcl HO6.out.rd
      rw [← hP] at hK
      refine hK.mono ?_
      clear hK
      rintro e w7 ⟨ao7, cap7, rfl, ho7, hb7⟩
      have HO7 := Lib.hid ho7
      have HB7 := Lib.hid hb7
      clear ho7 hb7
      have HP := Lib.hid hP
      clear hP
      go_wp2_with fail
      refine (unpack_any cs P _ w7 hcl hPl HO7.out.rd hPD).mono ?_
      rintro e w8 ⟨ao8, cap8, rfl, ho8, hb8⟩
      have HO8 := Lib.hid ho8
      have HB8 := Lib.hid hb8
      clear ho8 hb8
      have hr8 : Rd w8 (.slice ao6 cs.length cap6) cs := RdV.below (RdV.below HO6.out.rd.v HB7.out) HB8.out
      have hK := rpack_any cs _ w8 hcl hr8
      rw [← HP.out] at hK
      have HK := Lib.hid hK
      clear hK
      go_wp2_with fail
      refine HK.out.mono ?_
      rintro e w9 ⟨ao9, cap9, rfl, ho9, hb9⟩
      have c1 := run_str (RdV.below (RdV.below HO7.out.rd.v HB8.out) hb9) 22 5 9 Try.underlying22 Try.underlying5 Try.underlying9
      have c2 := run_str ho9.rd 22 5 9 Try.underlying22 Try.underlying5 Try.underlying9
      have c3 := run_str (RdV.below HO8.out.rd.v hb9) 22 5 9 Try.underlying22 Try.underlying5 Try.underlying9
      have c4 := run_str (RdV.below hr8.v hb9) 22 5 9 Try.underlying22 Try.underlying5 Try.underlying9
      have HB9 := Lib.hid (HB6.out.trans ((HB7.out.mono HB6.out.size).trans ((HB8.out.mono (Nat.le_trans HB6.out.size HB7.out.size)).trans (hb9.mono (Nat.le_trans HB6.out.size (Nat.le_trans HB7.out.size HB8.out.size))))))
      clear ho9 hb9 HK hr8 hPD
      go_wp2_with fail
      go_ret
      exact ⟨by simp, HB9.out⟩

theorem lzFar_walk {H : Type} (enc : TypeId × Value → H) (W : World) (base : Nat) (v0 : Value) (d0 : DataW H) (p0 : List MemPlace)
    (o0 : Value.okWide Try.prog W .any base 5 v0)
    (t0 : DataW.Trod enc Try.prog W 0 (fun _ => true) true 5 v0 d0 p0)
    (hsz : (DataW.weightsEach Try.prog [5] [d0]).all (· ≤ reachBytes) = true) :
    Calls Try.prog 5 #[v0] W fun e W' => e = .returned (.bool true) ∧ Below W.heap.size W W' := by
  obtain ⟨c, rfl, rfl, rfl, hc⟩ := open_int Try.underlying5 o0 t0
  have hc2 : 0 ≤ c ∧ c ≤ 255 := by simpa [Lit.wf, IntKind.min, IntKind.max, IntKind.signed, IntKind.bits] using hc
  obtain ⟨c', rfl⟩ : ∃ c' : Nat, c = (c' : Int) := ⟨c.toNat, by omega⟩
  exact lzFar_run c' (by omega) W

end Go.Proofs.Ytglpdkcpnigniaa
