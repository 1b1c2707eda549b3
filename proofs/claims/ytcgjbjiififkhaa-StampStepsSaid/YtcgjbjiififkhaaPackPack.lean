/- pack.Pack: what it gives is packL. -/
import Derived.Test.YtcgjbjiififkhaaTake
namespace Go.Proofs.Ytcgjbjiififkhaa
open Go.RowKit
set_option linter.unusedVariables false

/-- What is packed, by the list alone. -/
def pkA (l : List Nat) : Option (List UInt8) := packL l.length l

theorem takeN_pos {l : List Nat} {s w : Nat} (h : takeS l = some (s, w)) (hl : l ≠ []) : 1 ≤ min (60 / w) l.length := by
  obtain ⟨hs, hw, _⟩ := takeS_some h
  have := wds_get s hs
  rw [← hw] at this
  have h1 : 1 ≤ 60 / w := (Nat.one_le_div_iff (by omega)).2 this.2
  have h2 : 0 < l.length := List.length_pos_iff.2 hl
  omega

theorem packL_fuel : ∀ (f g : Nat) (l : List Nat), l.length ≤ f → l.length ≤ g → packL f l = packL g l
  | 0, 0, l, _, _ => rfl
  | 0, g + 1, l, h, _ => by
    obtain rfl : l = [] := List.eq_nil_of_length_eq_zero (by omega)
    simp [packL]
  | f + 1, 0, l, _, h => by
    obtain rfl : l = [] := List.eq_nil_of_length_eq_zero (by omega)
    simp [packL]
  | f + 1, g + 1, l, h1, h2 => by
    unfold packL
    by_cases hl : l = []
    · rw [if_pos hl, if_pos hl]
    · rw [if_neg hl, if_neg hl]
      cases ht : takeS l with
      | none => rfl
      | some p =>
        obtain ⟨s, w⟩ := p
        have hp := takeN_pos ht hl
        have e : (l.drop (min (60 / w) l.length)).length = l.length - min (60 / w) l.length := by simp
        simp only
        rw [packL_fuel f g _ (by omega) (by omega)]

theorem pkA_nil : pkA [] = some [] := rfl
theorem pkA_none {l : List Nat} (hl : l ≠ []) (h : takeS l = none) : pkA l = none := by
  unfold pkA
  obtain ⟨n, hn⟩ : ∃ n, l.length = n + 1 := ⟨l.length - 1, by have := List.length_pos_iff.2 hl; omega⟩
  rw [hn]
  unfold packL
  rw [if_neg hl, h]
theorem pkA_some {l : List Nat} {s w : Nat} (hl : l ≠ []) (h : takeS l = some (s, w)) : pkA l = (pkA (l.drop (min (60 / w) l.length))).map fun b => be8 (wordN w s l) ++ b := by
  have hp := takeN_pos h hl
  have e : (l.drop (min (60 / w) l.length)).length = l.length - min (60 / w) l.length := by simp
  generalize hk : min (60 / w) l.length = k at *
  obtain ⟨n, hn⟩ : ∃ n, l.length = n + 1 := ⟨l.length - 1, by have := List.length_pos_iff.2 hl; omega⟩
  have e1 : pkA (l.drop k) = packL n (l.drop k) := packL_fuel _ _ _ (Nat.le_refl _) (by omega)
  rw [e1]
  unfold pkA
  rw [hn]
  have e2 : packL (n + 1) l = if l = [] then some [] else match takeS l with
    | none => none
    | some (s, w) => (packL n (l.drop (min (60 / w) l.length))).map fun b => be8 (wordN w s l) ++ b := rfl
  rw [e2, if_neg hl, h]
  simp only [hk]

theorem takeR_none {l : List Nat} (h : takeS l = none) : takeR l = (-1, 0) := by unfold takeR; rw [h]
theorem takeR_some {l : List Nat} {s w : Nat} (h : takeS l = some (s, w)) : takeR l = ((s : Int), ((min (60 / w) l.length : Nat) : Int)) := by unfold takeR; rw [h]

section
variable {P : Program}
/-- 'x[lo:]' as wpList_slice_rd, what reads in another world. -/
theorem wpList_slice_at (w0 w : World) {ops : Array Oper} {rest : List Oper} {o : Oper} {a : Act} {Q : Exit → Act → World → Prop} (hgd : o.guard = none) (x : Operand) (lo hi : Option Operand) (t : TypeId)
    (ho : o.op = .slice t x lo hi none) (e : TypeId) (size : Nat) (z : Value) (bytes : Nat) (ht : P.underlying t = some (.slice e)) (hinfo : (P.info? e).map (fun i => (i.zero, i.size, i.bytes)) = some (some z, size, bytes))
    (ao : Option Addr) (n cap : Nat) (xs : List Value) (hx : a.eval x = .slice ao n cap) (hr : RdV w0 size (.slice ao n cap) n xs) (l m : Nat)
    (hb : (Instr.sliceBounds true n cap (lo.map a.eval) (hi.map a.eval) none).run P w = .ok (l, m, cap) w) (hl : l ≤ m) (hm : m ≤ n)
    (h : ∀ ao' cap', RdV w0 size (.slice ao' (m - l) cap') (m - l) ((xs.drop (l * size)).take ((m - l) * size)) → (∀ k, (Value.slice ao' (m - l) cap').ownBlock = some k → (Value.slice ao n cap).ownBlock = some k) →
      wpList P ops Q rest (a.put o.dst (.slice ao' (m - l) cap')) w) : wpList P ops Q (o :: rest) a w := by
  obtain ⟨i, hi', hz, hsize, hby⟩ := info_parts hinfo
  have hrun : (Instr.sliceAt t (.slice ao n cap) (lo.map a.eval) (hi.map a.eval) none).run P w = .ok (.slice (if cap = l then ao else ao.map (·.add (l * size))) (m - l) (cap - l)) w := by
    simp only [Instr.sliceAt, Sem.run_bind, run_underlying ht, Result.andThen_ok, Instr.slice, hb, sizeOf, typeInfo]
    simp [hi', hsize]
  refine wpList_plain hgd fun K hK => ?_
  unfold Oper.wp execOp
  simp only [ho, hx, Option.map_none, Sem.run_bind, hrun, Result.andThen_ok]
  exact hK _ _ (h _ _ (hr.cut l m hl hm) (fun k hk => cut_block k hk n cap))

end

theorem infoU64 : (Try.prog.info? 37).map (fun i => (i.zero, i.size, i.bytes)) = some (some (.int .u64 0), 1, 8) := by kernel_rfl

/-- append of bytes that read onto the call's own bytes. -/
theorem wpList_append_bs (w : World) {ops : Array Oper} {rest : List Oper} {o : Oper} {a : Act} {Q : Exit → Act → World → Prop} (hgd : o.guard = none) (s x : Operand)
    (ho : o.op = .call { callee := .builtin .append, args := #[s, x], argTypes := #[24, 24] })
    (base : Nat) (v : Value) (ps : List UInt8) (hs : a.eval s = v) (hown : Own w base v ps) (xv : Value) (bs : List UInt8) (hx : a.eval x = xv) (hrd : Rd w xv bs)
    (hlen : ps.length + bs.length ≤ 140737488355328) (hbase : base ≤ w.heap.size)
    (h : ∀ ao cap w', Grew w w' base 5 1 v (.slice ao (ps ++ bs).length cap) (ps ++ bs).length ((ps ++ bs).map bV) → wpList Try.prog ops Q rest (a.put o.dst (.slice ao (ps ++ bs).length cap)) w') : wpList Try.prog ops Q (o :: rest) a w := by
  refine wpList_append_rd w hgd s x 24 ho base 5 (.int .u8 0) 1 1 Try.underlying24 infoU8 rfl (by decide) v ps.length (ps.map bV) hs hown xv bs.length (bs.map bV) hx hrd (bV_one _) (by unfold maxLen; omega) (by omega) hbase ?_
  intro ao cap w' hg
  have := h ao cap w'
  rw [List.length_append, List.map_append] at this
  exact this hg

theorem shl_u64 (x Z : Nat) : IntKind.u64.wrap ((x : Int) * 2 ^ min Z 64) = ((x * 2 ^ Z % 18446744073709551616 : Nat) : Int) := by
  have e : ∀ v : Int, IntKind.u64.wrap v = v % 18446744073709551616 := fun v => by simp [IntKind.wrap, IntKind.signed, IntKind.bits]
  rw [e]
  by_cases h : Z ≤ 64
  · rw [Nat.min_eq_left h]; simp
  · rw [Nat.min_eq_right (by omega)]
    have : x * 2 ^ Z = x * 2 ^ (Z - 64) * 18446744073709551616 := by
      rw [Nat.mul_assoc]
      congr 1
      rw [show (18446744073709551616 : Nat) = 2 ^ 64 by rfl, ← Nat.pow_add]
      congr 1
      omega
    rw [this, Nat.mul_mod_left]
    omega

set_option maxHeartbeats 2000000 in
set_option maxRecDepth 100000 in
theorem pack_any (l : List Nat) (v : Value) (w : World) (hl : l.length ≤ 17592186044416) (hx : ∀ x ∈ l, x < 18446744073709551616) (hr : Nums w v l) :
    Calls Try.prog 22 #[v] w fun e w' => Below w.heap.size w w' ∧ ((pkA l = none ∧ e = .returned (.tuple #[.slice none 0 0, .int .i64 3])) ∨
      ∃ bs ao cap, pkA l = some bs ∧ bs.length ≤ 8 * l.length ∧ e = .returned (.tuple #[.slice ao bs.length cap, .int .i64 0]) ∧ Own w' w.heap.size (.slice ao bs.length cap) bs) := by
  obtain ⟨ao0, cap0, rfl, hnc, hcm⟩ := RdV.shape hr
  unfold maxLen at hcm
  have hst : ∀ t : Array Value, (storeCells ⟨w.heap.size + 1, 0, none⟩ wArr.toList).run Try.prog ((w.alloc (.cells wArr 64)).alloc (.cells #[.int .i64 0, .int .i64 0, .int .i64 0, .int .i64 0, .int .i64 0, .int .i64 0, .int .i64 0, .int .i64 0, .int .i64 0, .int .i64 0, .int .i64 0, .int .i64 0, .int .i64 0, .int .i64 0] 64)) = .ok () ((w.alloc (.cells wArr 64)).alloc (.cells wArr 64)) := by
    intro _
    have e : (w.alloc (.cells wArr 64)).heap.size = w.heap.size + 1 := by simp
    have := run_storeCells_new (P := Try.prog) (w.alloc (.cells wArr 64)) 64 #[.int .i64 0, .int .i64 0, .int .i64 0, .int .i64 0, .int .i64 0, .int .i64 0, .int .i64 0, .int .i64 0, .int .i64 0, .int .i64 0, .int .i64 0, .int .i64 0, .int .i64 0, .int .i64 0] wArr rfl rfl (by simp [wArr, Value.oneCell'])
    rw [e] at this
    exact this
  have hs := hst #[]
  clear hst
  have HA0 : ∀ k < 14, ((w.alloc (.cells wArr 64)).alloc (.cells wArr 64)).cell? ⟨w.heap.size + 1, k, none⟩ = some (.int .i64 (wds.getD k 0 : Nat)) := by
    intro k hk
    have e : (w.alloc (.cells wArr 64)).heap.size = w.heap.size + 1 := by simp
    have := cell_of_row ((w.alloc (.cells wArr 64)).alloc (.cells wArr 64)) (w.heap.size + 1) k wArr 64 (0, 0) (by rw [← e]; exact heap_alloc_last _ _)
    rw [this]
    have hcase : k = 0 ∨ k = 1 ∨ k = 2 ∨ k = 3 ∨ k = 4 ∨ k = 5 ∨ k = 6 ∨ k = 7 ∨ k = 8 ∨ k = 9 ∨ k = 10 ∨ k = 11 ∨ k = 12 ∨ k = 13 := by omega
    rcases hcase with rfl | rfl | rfl | rfl | rfl | rfl | rfl | rfl | rfl | rfl | rfl | rfl | rfl | rfl <;> rfl
  have HA := Lib.hid HA0
  clear HA0
  have HB0 := Lib.hid (((Below.refl w.heap.size w).alloc (Nat.le_refl _) (.cells wArr 64)).alloc (by simp) (.cells wArr 64))
  have HZ := Lib.hid (show ((w.alloc (.cells wArr 64)).alloc (.cells wArr 64)).heap.size = w.heap.size + 2 by simp)
  go_enter Try.func22, Try.ntmps22
  go_upto_region 2 with (fail)
  go_wp2_with (refine Calls.mono (widths_any _) ?_; rintro _ _ ⟨rfl, rfl⟩)
  generalize (w.alloc (.cells wArr 64)).alloc (.cells wArr 64) = w1 at *
  clear hs
  go_loopg [0, 4] l.length (fun m s0 s4 wr => ∃ (r : List Nat) (ps : List UInt8) (ao : Option Addr) (cap : Nat) (pao : Option Addr) (pcap : Nat), r.length = m ∧ s0 = .slice ao r.length cap ∧ s4 = .slice pao ps.length pcap ∧
    r.length ≤ l.length ∧ ps.length + 8 * r.length ≤ 8 * l.length ∧ Hid (Nums w (.slice ao r.length cap) r) ∧ Hid (∀ x ∈ r, x < 18446744073709551616) ∧ Hid (pkA l = (pkA r).map (ps ++ ·)) ∧
    Hid (Own wr w.heap.size (.slice pao ps.length pcap) ps) ∧ Hid (∀ k, (Value.slice pao ps.length pcap).ownBlock = some k → k ≠ w.heap.size + 1) ∧ Hid (∀ k < 14, wr.cell? ⟨w.heap.size + 1, k, none⟩ = some (.int .i64 (wds.getD k 0 : Nat))) ∧ w.heap.size + 1 < wr.heap.size ∧ Hid (Below w.heap.size w wr))
  case atStart => exact ⟨l, [], ao0, cap0, none, 0, rfl, rfl, rfl, Nat.le_refl _, by simp, Lib.hid hr, Lib.hid hx, Lib.hid (by simp), Lib.hid (Own.nil _ _), Lib.hid (by intro k hk; cases hk), HA, by rw [HZ.out]; omega, HB0⟩
  case round =>
    clear HA HB0 HZ hr hx hnc
    obtain ⟨r, ps, ao, cap, pao, pcap, hm, rfl, rfl, hrl, hpl, HN, HX, HP, HO, HK, HA, hAl, hB⟩ := hrel
    obtain ⟨_, _, he, hrc, hcap⟩ := RdV.shape HN.out
    unfold maxLen at hcap
    simp only [Value.slice.injEq, true_and] at he
    obtain ⟨he1, he2⟩ := he
    subst he1 he2
    have hrlen := Lib.hid hm
    by_cases h0 : gk = 0
    · obtain rfl : r = [] := List.eq_nil_of_length_eq_zero (by omega)
      clear hm hrlen
      go_wp2_with fail
      go_ret2
      refine ⟨hB.out, .inr ⟨ps, pao, pcap, ?_, by omega, by go_light; rfl, HO.out⟩⟩
      rw [HP.out, pkA_nil]
      simp
    · have hr0 : 0 < r.length := by omega
      have hne : r ≠ [] := List.length_pos_iff.1 hr0
      clear hm
      have hN1 : Nums wr (.slice ao r.length cap) r := RdV.below HN.out hB.out
      have hT := take_any r _ wr (by omega) HX.out hN1
      have hTN := takeR_none (l := r)
      cases ht : takeS r with
      | none =>
        rw [hTN ht] at hT
        have hpn := Lib.hid (pkA_none hne ht)
        clear hTN ht hne hN1
        go_wp2_with (refine Calls.mono hT ?_; rintro _ _ ⟨rfl, hb2⟩; have HB2 := Lib.hid hb2; clear hb2 hT)
        go_ret2
        refine ⟨hB.out.trans (HB2.out.mono hB.out.size), .inl ⟨?_, by go_light; rfl⟩⟩
        rw [HP.out, hpn.out]
        rfl
      | some p =>
        obtain ⟨S, W⟩ := p
        rw [takeR_some ht] at hT
        dsimp only at hT
        have hps := Lib.hid (pkA_some hne ht)
        obtain ⟨hS, hW, hF⟩ := takeS_some ht
        have hWb := wds_get S hS
        rw [← hW] at hWb
        have hnp := takeN_pos ht hne
        have HWN := Lib.hid (show wordN W S r = wordT W S r (min (60 / W) r.length) from rfl)
        have hcW : Hid (wds.getD S 0 = W) := Lib.hid hW.symm
        have hn60 : min (60 / W) r.length ≤ 60 := by have : 60 / W ≤ 60 := Nat.div_le_self _ _; omega
        generalize hn : min (60 / W) r.length = n at *
        have hnl : n ≤ r.length := by omega
        clear hTN ht hne hW hF hn
        go_upto_region 5 with (go_at_call 34; refine Calls.mono hT ?_; rintro _ w2 ⟨rfl, hb2⟩; have HB2 := Lib.hid hb2; clear hb2 hT hN1)
        have hN2 : Hid (Nums w2 (.slice ao r.length cap) r) := Lib.hid (RdV.below HN.out (hB.out.trans (HB2.out.mono hB.out.size)))
        have hA2 : Hid (w2.cell? ⟨w.heap.size + 1, S, none⟩ = some (.int .i64 (W : Int))) := Lib.hid (by rw [HB2.out.cell hAl, HA.out S hS, hcW.out])
        have hB2 : Hid (Below w.heap.size w w2) := Lib.hid (hB.out.trans (HB2.out.mono hB.out.size))
        have hO2 : Hid (Own w2 w.heap.size (.slice pao ps.length pcap) ps) := Lib.hid ((Chg.ofBelowAny (S := fun _ => False) HB2.out).owns HO.out (fun _ _ h => h))
        have hA3 : Hid (∀ k < 14, w2.cell? ⟨w.heap.size + 1, k, none⟩ = some (.int .i64 (wds.getD k 0 : Nat))) := Lib.hid (fun k hk => by rw [HB2.out.cell hAl]; exact HA.out k hk)
        have hAl2 : w.heap.size + 1 < w2.heap.size := Nat.lt_of_lt_of_le hAl HB2.out.size
        have hword0 : Hid (wordT W S r 0 = S * 1152921504606846976) := Lib.hid (by show S * 2 ^ 60 % 18446744073709551616 = _; omega)
        clear hB HO HA hAl HB2
        obtain ⟨g0, hg0⟩ : ∃ g, g = gk := ⟨gk, rfl⟩
        have HG0 := Lib.hid hg0
        clear hg0 h0
        go_wp2_with fail
        go_loopg [8, 29] n (fun m s8 s29 wr => ∃ i : Nat, i + m = n ∧ s29 = .int .i64 (i : Int) ∧ s8 = .int .u64 ((wordT W S r i : Nat) : Int) ∧ ∃ q, wr = w2.drewN q)
        case atStart => exact ⟨0, by omega, rfl, by rw [hword0.out]; simp, 0, rfl⟩
        case round =>
          obtain ⟨i, hi, rfl, rfl, q, rfl⟩ := hrel
          by_cases h0 : gk = 0
          · obtain rfl : i = n := by omega
            clear hi
            have hTl : wordT W S r i < 18446744073709551616 := wordT_lt W S r i
            rw [HWN.out] at hps
            generalize wordT W S r i = T at *
            have hNv : RdV w 1 (.slice ao r.length cap) r.length (r.map uV) := HN.out
            go_upto_region 13 with fail
            have hO4 : Hid (Own (w2.drewN q) w.heap.size (.slice pao ps.length pcap) ps) := hO2
            have hB4 : Hid (Below w.heap.size w (w2.drewN q)) := Lib.hid ⟨hB2.out.os, hB2.out.tape, hB2.out.output, hB2.out.size, hB2.out.block⟩
            have hA4 : Hid (∀ k < 14, (w2.drewN q).cell? ⟨w.heap.size + 1, k, none⟩ = some (.int .i64 (wds.getD k 0 : Nat))) := hA3
            have hAl4 : w.heap.size + 1 < (w2.drewN q).heap.size := hAl2
            clear hA2 hA3 hO2 hB2 hAl2 hN2
            generalize w2.drewN q = w4 at *
            go_wp2_with (first
              | (go_at_call 21; refine Calls.mono (tail_any T hTl _) ?_; rintro _ w5 ⟨tao, tcap, rfl, ho5, hb5⟩; have HO5 := Lib.hid ho5; have HB5 := Lib.hid hb5; clear ho5 hb5; have HO6 := Lib.hid ((Chg.ofBelowAny (S := fun _ => False) HB5.out).owns hO4.out (fun _ _ h => h)); have hlen8 := be8_len T; have hls : ps.length + (be8 T).length ≤ 140737488355328 := (by omega); have hbs5 : w.heap.size ≤ w5.heap.size := (by have := HB5.out.size; omega); clear hlen8)
              | (at_builtin; refine wpList_append_bs _ rfl (.tmp 44) (.tmp 46) rfl w.heap.size (.slice pao ps.length pcap) ps rfl HO6.out (.slice tao (be8 T).length tcap) (be8 T) rfl HO5.out.rd hls hbs5 ?_; intro ao6 cap6 w6 hg6; have HG := Lib.hid hg6; clear hg6 HO5)
              | (with_reducible refine wpList_slice_at w w6 rfl (.tmp 48) (some (.tmp 49)) none 39 rfl 37 1 (.int .u64 0) 8 Try.underlying39 infoU64 _ _ _ _ rfl hNv i r.length ?hb hnl (Nat.le_refl _) ?hk))
            case hb => exact bounds_lo _ _ _ _ hnl
            case hk =>
              intro ao5 cap5 hr5 hb5
              have hcells := Lib.hid (show (((r.map uV).drop i).take (r.length - i)) = (r.drop i).map uV by rw [List.take_of_length_le (by simp), List.map_drop])
              rw [hcells.out] at hr5
              have HLn := Lib.hid (show r.length - i = (r.drop i).length by simp)
              rw [HLn.out] at hr5
              have HR5 : Hid (Nums w (.slice ao5 (r.drop i).length cap5) (r.drop i)) := Lib.hid hr5
              clear hr5 hb5 hcells
              go_wp2_with fail
              go_roundg (g0 - i)
              case measure => go_light; have h1 := HG0.out; have h2 := hrlen.out; omega
              case rel =>
                go_light
                refine ⟨r.drop i, ps ++ be8 T, ao5, cap5, ao6, cap6, ?_, by rw [HLn.out], by simp, ?_, ?_, HR5, Lib.hid (fun x hx => HX.out x (List.mem_of_mem_drop hx)), Lib.hid ?_, Lib.hid HG.out.owns, ?_, ?_, ?_, ?_⟩
                · have h1 := HG0.out; have h2 := hrlen.out; have h3 := HLn.out; omega
                · have h3 := HLn.out; omega
                · have h3 := HLn.out; simp only [List.length_append, be8_len]; omega
                · rw [HP.out, hps.out, Option.map_map]
                  simp [Function.comp_def, List.append_assoc]
                · exact Lib.hid (fun k hk => by
                    rcases HG.out.row k hk with h | h
                    · exact HK.out k h
                    · have := HB5.out.size; omega)
                · exact Lib.hid (fun k hk => by
                    rw [HG.out.chg.cell (p := ⟨w.heap.size + 1, k, none⟩) (by have := HB5.out.size; simp; omega) (fun h => HK.out _ h rfl), HB5.out.cell hAl4]
                    exact hA4.out k hk)
                · have h1 := HG.out.grown.size; have h2 := HB5.out.size; omega
                · exact Lib.hid ((hB4.out.trans (HB5.out.mono hB4.out.size)).trans (HG.out.below hbs5 (fun k hk => (HO6.out.lt k hk).1)))
          · have hin : i < n := by omega
            obtain ⟨b, off, bcap, he, hb, hc⟩ := num_at (w := w2.drewN q) hN2.out i (by omega)
            simp only [Value.slice.injEq, true_and] at he
            obtain ⟨rfl, rfl⟩ := he
            have hc2 : (w2.drewN q).cell? ⟨w.heap.size + 1, S, none⟩ = some (.int .i64 (W : Int)) := hA2.out
            have hxi : r.getD i 0 < 18446744073709551616 := by
              have : i < r.length := by omega
              rw [show r.getD i 0 = r[i] by simp [this]]
              exact HX.out _ (List.getElem_mem this)
            have hwl := wordT_lt W S r i
            have hiW : i * W < 4000 := Nat.lt_of_le_of_lt (Nat.mul_le_mul (show i ≤ 60 by omega) hWb.2) (by decide)
            have hnext : Hid (wordT W S r (i + 1) = wordT W S r i ||| (r.getD i 0 * 2 ^ (i * W) % 18446744073709551616)) := Lib.hid rfl
            obtain ⟨Z, hZ⟩ : ∃ Z, Z = i * W := ⟨_, rfl⟩
            rw [← hZ] at hiW hnext
            have hm1 : IntKind.i64.wrap ((i : Int) * (W : Int)) = (Z : Int) := by
              rw [show (i : Int) * (W : Int) = (Z : Int) by rw [hZ]; simp]
              exact IntWalk.i64_in _ (by omega)
            clear hZ
            generalize wordT W S r i = T at *
            generalize r.getD i 0 = x at *
            go_wp2_with fail
            go_roundg (gk - 1)
            case measure => go_light; omega
            case rel =>
              go_light
              refine ⟨i + 1, by omega, by go_num, ?_, q, rfl⟩
              rw [hnext.out, shl_u64, u64_or_nat _ _ hwl (Nat.mod_lt _ (by decide))]
end Go.Proofs.Ytcgjbjiififkhaa
