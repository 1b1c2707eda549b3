/- Texts of ours, behind one another: Join, AppStr, Pieces, StepApp, Takes, RefPut, RefBits, ShortPlain, Short, Zig. No conditions but those that each states. -/
import Derived.Test.YthcgalpabjjkoaaDoorG1
import Derived.Test.YthcgalpabjjkoaaDoorRows
import Derived.Lib.AppendStr
import Derived.Laws.IdiomStrings
import Derived.Deep.RegionHeld3
import Derived.Deep.RegionWith
import Derived.Deep.CutBlock
import Derived.WalkKit
import Derived.WalkSpells
import Derived.WalkLawsBesides
/- XJoin: gristref01.Join. -/
namespace Go.Proofs.YthcgalpabjjkoaaDoor
open Go.RowKit
set_option linter.unusedVariables false

/-- A slice of byte slices. -/
def Parts (w : World) (v : Value) (ps : List (List UInt8)) : Prop :=
  ∃ vs : List Value, vs.length = ps.length ∧ RdV w 1 v ps.length vs ∧ ∀ i u, vs[i]? = some u → Rd w u (ps.getD i [])

theorem Parts.below {w w' : World} {v : Value} {ps : List (List UInt8)} (h : Parts w v ps) (hb : Below w.heap.size w w') : Parts w' v ps := by
  obtain ⟨vs, h1, h2, h3⟩ := h
  exact ⟨vs, h1, RdV.below h2 hb, fun i u hu => RdV.below (h3 i u hu).v hb⟩

theorem Parts.two {w : World} {a b : Value} {x y : List UInt8} {t : TypeId} (ha : Rd w a x) (hb : Rd w b y) :
    Parts (w.alloc (.cells #[a, b] t)) (.slice (some ⟨w.heap.size, 0, none⟩) 2 2) [x, y] := by
  have hbl : Below w.heap.size w (w.alloc (.cells #[a, b] t)) := (Below.refl _ _).alloc (Nat.le_refl _) _
  refine ⟨[a, b], rfl, RdV.lit w #[a, b] t 2 1 (by decide) rfl, fun i u hu => ?_⟩
  match i, hu with
  | 0, hu => obtain rfl : a = u := by simpa using hu
             exact RdV.below ha.v hbl
  | 1, hu => obtain rfl : b = u := by simpa using hu
             exact RdV.below hb.v hbl
theorem Parts.three {w : World} {a b c : Value} {x y z : List UInt8} {t : TypeId} (ha : Rd w a x) (hb : Rd w b y) (hc : Rd w c z) :
    Parts (w.alloc (.cells #[a, b, c] t)) (.slice (some ⟨w.heap.size, 0, none⟩) 3 3) [x, y, z] := by
  have hbl : Below w.heap.size w (w.alloc (.cells #[a, b, c] t)) := (Below.refl _ _).alloc (Nat.le_refl _) _
  refine ⟨[a, b, c], rfl, RdV.lit w #[a, b, c] t 3 1 (by decide) rfl, fun i u hu => ?_⟩
  match i, hu with
  | 0, hu => obtain rfl : a = u := by simpa using hu
             exact RdV.below ha.v hbl
  | 1, hu => obtain rfl : b = u := by simpa using hu
             exact RdV.below hb.v hbl
  | 2, hu => obtain rfl : c = u := by simpa using hu
             exact RdV.below hc.v hbl

set_option maxHeartbeats 400000 in
theorem join_any (ps : List (List UInt8)) (v : Value) (w : World) (hp : Parts w v ps) (hl : ps.flatten.length ≤ 140737488355328) :
    Calls Tryd.prog 23 #[v] w fun e w' => ∃ ao cap, e = .returned (.slice ao ps.flatten.length cap) ∧ Own w' w.heap.size (.slice ao ps.flatten.length cap) ps.flatten ∧ Below w.heap.size w w' := by
  obtain ⟨vs, hvl, hr, hvs⟩ := hp
  obtain ⟨ao0, cap0, rfl, hnc, hcm⟩ := RdV.shape hr
  unfold maxLen at hcm
  have HR := Lib.hid hr
  have HVL := Lib.hid hvl
  have HVS := Lib.hid hvs
  have HL := Lib.hid hl
  clear hr hvl hvs hl
  go_enter Tryd.func23, Tryd.ntmps23
  go_wp2_with fail
  go_loopg [3, 7] ps.length (fun m s3 s7 wr => ∃ (k : Nat) (cs : List UInt8) (ao : Option Addr) (cap : Nat), k + m = ps.length ∧ s7 = .int .i64 (k : Int) ∧ s3 = .slice ao cs.length cap ∧ Hid (cs = (ps.take k).flatten) ∧ Hid (Own wr w.heap.size (.slice ao cs.length cap) cs) ∧ Hid (Below w.heap.size w wr))
  case atStart => exact ⟨0, [], none, 0, by omega, rfl, rfl, Lib.hid rfl, Lib.hid (Own.nil _ _), Lib.hid (Below.refl _ _)⟩
  case round =>
    obtain ⟨k, cs, ao, cap, hk, rfl, rfl, HC, HO, HB⟩ := hrel
    by_cases h0 : gk = 0
    · obtain rfl : k = ps.length := by omega
      have hc := HC.out
      rw [List.take_length] at hc
      have HC2 := Lib.hid hc
      clear hc HC
      go_wp2_with fail
      go_ret
      refine ⟨ao, cap, ?_, ?_, HB.out⟩
      · rw [← HC2.out]; rfl
      · rw [← HC2.out]; exact HO.out
    · have hkl : k < ps.length := by omega
      obtain ⟨b, off, bcap, he, _, _, hb, hc⟩ := RdV.some HR.out (by omega) (by decide)
      simp only [Value.slice.injEq, true_and] at he
      obtain ⟨rfl, rfl⟩ := he
      have hkv : k < vs.length := by rw [HVL.out]; exact hkl
      have hc1 := hc k vs[k] (by simp [hkv])
      have hR1 := HVS.out k vs[k] (by simp [hkv])
      have hc2 : wr.cell? ⟨b, off + k, none⟩ = some vs[k] := (HB.out.cell (p := ⟨b, off + k, none⟩) hb).trans hc1
      have HR1 := Lib.hid (show Rd wr vs[k] (ps.getD k []) from RdV.below hR1.v HB.out)
      have HT : Hid ((ps.take (k + 1)).flatten = (ps.take k).flatten ++ ps.getD k []) := Lib.hid (by
        rw [List.take_succ_eq_append_getElem hkl, List.flatten_append]
        simp [hkl])
      have hsum : Hid (cs.length + (ps.getD k []).length ≤ 140737488355328) := Lib.hid (by
        have h1 : ((ps.take (k + 1)).flatten).length ≤ ps.flatten.length := by
          conv => rhs; rw [← List.take_append_drop (k + 1) ps, List.flatten_append, List.length_append]
          omega
        rw [HT.out, List.length_append, ← HC.out] at h1
        have := HL.out
        omega)
      clear hc hc1 hR1 hb
      generalize ps.getD k [] = q at *
      generalize vs[k] = u at *
      obtain ⟨qo, qc, rfl, _, _⟩ := RdV.shape HR1.out
      have hbs : Hid (w.heap.size ≤ wr.heap.size) := Lib.hid HB.out.size
      go_wp2_with (at_builtin; refine wpList_append_bs _ rfl (.tmp 10) (.tmp 14) rfl w.heap.size (.slice ao cs.length cap) cs rfl HO.out (.slice qo q.length qc) q rfl HR1.out hsum.out hbs.out ?_; intro ao6 cap6 w6 hg6; have HG := Lib.hid hg6; clear hg6)
      go_roundg (gk - 1)
      case measure => go_light; omega
      case rel =>
        go_light
        exact ⟨k + 1, cs ++ q, ao6, cap6, by omega, by go_num, by simp, Lib.hid (by rw [HT.out, HC.out]), Lib.hid HG.out.owns, Lib.hid (HB.out.trans (HG.out.below hbs.out (fun j hj => (World.ownsRow.lt HO.out j hj).1)))⟩
end Go.Proofs.YthcgalpabjjkoaaDoor

/- XAppStr: 'append(b, s...)': a string's bytes behind the call's own. -/
namespace Go.Proofs.YthcgalpabjjkoaaDoor
open Go.RowKit
set_option linter.unusedVariables false

theorem str_of (s : ByteArray) : strOf s.toList = s := by
  have e : s = strOf s.data.toList := by cases s; simp [strOf]
  rw [e, strOf_toList]
theorem toList_len (s : ByteArray) : s.toList.length = s.size := by
  have h := congrArg ByteArray.size (str_of s)
  rw [strOf_size] at h
  exact h
theorem strCells_bV (s : ByteArray) : Lib.strCells s = s.toList.map bV := by
  have e : s = strOf s.data.toList := by cases s; simp [strOf]
  rw [e, strOf_toList]
  rfl

theorem rd_beN (n v : Nat) (hv : v < 2 ^ (8 * n)) (r : List UInt8) : rdN n (beN n v ++ r) = v := by
  unfold rdN
  rw [List.take_left' (beN_len n v)]
  unfold beN
  rw [bits8_pack8, length_bitsOf]
  have e2 : (8 - 8 * n % 8) % 8 = 0 := by omega
  rw [e2, List.replicate_zero, List.append_nil, num_bitsOf]
  exact Nat.mod_eq_of_lt hv
theorem beN_rdN (n : Nat) (r : List UInt8) (h : n ≤ r.length) : beN n (rdN n r) = r.take n := by
  unfold beN rdN
  have e : 8 * n = (bits8 (r.take n)).length := by simp; omega
  rw [e, bitsOf_num, pack8_bits8]

section
variable {P : Program}
theorem run_append_str (w : World) (base : Nat) (t u ty e : TypeId) (i : TypeInfo) (ht : P.underlying t = some (.slice e)) (hu : P.underlying u = some .string) (hi : P.info? e = some i) (hz : i.zero = some (.int .u8 0))
    (hsize : i.size = 1) (hby : i.bytes = 1) (v : Value) (n : Nat) (xs : List Value) (hown : w.ownsRow base e 1 v n xs) (s : ByteArray)
    (h63 : n + s.size ≤ maxLen) (hbytes : n + s.size ≤ 140737488355328) (hbase : base ≤ w.heap.size) :
    ∃ ao cap w', (Builtin.append_ #[t, u] ty #[v, .string s]).run P w = .ok (.slice ao (n + s.size) cap) w' ∧ Grew w w' base e 1 v (.slice ao (n + s.size) cap) (n + s.size) (xs ++ s.toList.map bV) := by
  have hsmall : n + s.size ≤ 9223372036854775807 := by simp only [maxLen] at h63; omega
  rcases hown.2 with ⟨rfl, rfl⟩ | ⟨g, cap, cur, rfl, hbg, hg, hnc, hcm, hcsz, htake⟩
  · obtain rfl : xs = [] := List.eq_nil_of_length_eq_zero (by simpa using hown.1)
    obtain ⟨v', w', hr, ho, hgr, _⟩ := Lib.run_append_own_string (P := P) w w.heap.size t u ty e i ht hu hi hz hsize hby (.slice none 0 0) 0 [] (World.ownsRow_nil w _ e 1) s h63 hbytes (Nat.le_refl _)
    rw [strCells_bV] at ho
    obtain ⟨ao, cap, rfl⟩ := ownsRow_shape ho
    exact ⟨ao, cap, w', hr, ownsRow_mono ho hbase, hgr, fun k hk => .inr (ho.lt k hk).1⟩
  · obtain ⟨v', w', hr, ho, hgr, _⟩ := Lib.run_append_own_string (P := P) w base t u ty e i ht hu hi hz hsize hby _ n xs hown s h63 hbytes hbase
    rw [strCells_bV] at ho
    obtain ⟨ao, cap', rfl⟩ := ownsRow_shape ho
    refine ⟨ao, cap', w', hr, ho, hgr, fun k hk => ?_⟩
    by_cases hroom : n + s.size ≤ cap
    · have h2 := Lib.run_append_room_string (P := P) w t u ty e i ht hu hi hsize g n cap cur hg s hroom (by simp at hcsz; omega)
      rw [hr] at h2
      injection h2 with h3 _
      injection h3 with h4 _ _
      subst h4
      exact .inl hk
    · have holds : ∀ j v, xs[j]? = some v → w.cell? ((⟨g, 0, none⟩ : Addr).add j) = some v := hown.cells (g := g) rfl
      have hle := growslice_fits (need := n + s.size) (old := cap) (bytes := 1) (by omega) (by omega)
      have h2 := Lib.run_append_grow_string (P := P) w t u ty e i (.int .u8 0) ht hu hi hz ⟨g, 0, none⟩ n cap xs (by rw [hsize]; exact hown.1) holds s (by omega) (by omega) (by rw [hby]; exact hle)
      rw [hr] at h2
      injection h2 with h3 _
      injection h3 with h4 _ _
      subst h4
      simp [Value.ownBlock] at hk
      exact .inr (by omega)
end

theorem wpList_append_str (w : World) {ops : Array Oper} {rest : List Oper} {o : Oper} {a : Act} {Q : Exit → Act → World → Prop} (hgd : o.guard = none) (s x : Operand)
    (ho : o.op = .call { callee := .builtin .append, args := #[s, x], argTypes := #[33, 9] })
    (base : Nat) (v : Value) (ps : List UInt8) (hs : a.eval s = v) (hown : Own w base v ps) (xs : ByteArray) (hx : a.eval x = .string xs)
    (hlen : ps.length + xs.size ≤ 140737488355328) (hbase : base ≤ w.heap.size)
    (h : ∀ ao cap w', Grew w w' base 5 1 v (.slice ao (ps ++ xs.toList).length cap) (ps ++ xs.toList).length ((ps ++ xs.toList).map bV) → wpList Tryd.prog ops Q rest (a.put o.dst (.slice ao (ps ++ xs.toList).length cap)) w') : wpList Tryd.prog ops Q (o :: rest) a w := by
  obtain ⟨i, hi, hz, hsize, hby⟩ := info_parts infoU8
  obtain ⟨ao, cap, w', hr, h2⟩ := run_append_str (P := Tryd.prog) w base 33 9 o.type 5 i Tryd.underlying33 Tryd.underlying9 hi hz hsize hby v ps.length (ps.map bV) hown xs (by unfold maxLen; omega) hlen hbase
  refine wpList_plain hgd fun K hK => ?_
  unfold Oper.wp execOp
  simp only [ho, resolve, invoke, builtin, Sem.run_bind, Sem.run_pure, Result.andThen_ok, List.map_toArray, List.map_cons, List.map_nil, hs, hx, hr]
  have h3 := h ao cap w'
  rw [List.length_append, List.map_append, toList_len] at h3
  exact hK _ _ (h3 h2)
end Go.Proofs.YthcgalpabjjkoaaDoor

/- XPieces: Pieces of bytes for a drawn region: '[]byte(s)', and Join of a written-out list. -/
namespace Go.Proofs.YthcgalpabjjkoaaDoor
open Go.RowKit
set_option linter.unusedVariables false

/-- '[]byte(s)'. -/
theorem strBytes_any (s : ByteArray) (w : World) (hs : s.size ≤ 140737488355328) :
    ∃ ao cap w', (convert 9 33 (.string s)).run Tryd.prog w = .ok (.slice ao s.toList.length cap) w' ∧ Rd w' (.slice ao s.toList.length cap) s.toList ∧ Below w.heap.size w w' := by
  have hr := run_bytes_of_string (P := Tryd.prog) w 9 33 5 s Tryd.underlying9 Tryd.underlying33 Tryd.underlying5
  have hge := grownCap_ge w s.size 0 5
  have hle := grownCap_le_maxLen w s.size 0 5 (by unfold maxLen; omega)
  refine ⟨_, _, _, by rw [toList_len]; exact hr, ?_, ((Below.refl _ _).drew).alloc (Nat.le_refl _) _⟩
  unfold Rd RdV
  rw [toList_len]
  refine ⟨by simp [toList_len], _, _, rfl, hge, hle, (fun h => by cases h), fun a ha j u hu => ?_⟩
  cases ha
  refine ⟨rfl, by simp, ?_⟩
  have hj : j < s.size := by have := (List.getElem?_eq_some_iff.1 hu).1; simpa [toList_len] using this
  have e := World.cell?_alloc_mark w.drew (bytesRow s (grownCap w s.size 0 5)) 5 ((bytesRow s (grownCap w s.size 0 5)).size, (bytesRow s (grownCap w s.size 0 5)).size + 1) j
  rw [Nat.zero_add]
  refine Eq.trans e ?_
  have hj2 : j < s.data.size := hj
  have el : s.toList = s.data.toList := by
    have e : s = strOf s.data.toList := by cases s; simp [strOf]
    conv => lhs; rw [e]
    rw [strOf_toList]
  rw [el] at hu
  unfold bytesRow
  rw [Array.getElem?_append_left (by simpa using hj2)]
  simpa [bV] using hu

/-- Values that read as these pieces. -/
def Pcs (w : World) : List Value → List (List UInt8) → Prop
  | [], [] => True
  | v :: vs, b :: bs => Rd w v b ∧ Pcs w vs bs
  | _, _ => False
theorem Pcs.nil {w : World} : Pcs w [] [] := trivial
theorem Pcs.cons {w : World} {v : Value} {b : List UInt8} {vs : List Value} {bs : List (List UInt8)} (h : Rd w v b) (k : Pcs w vs bs) : Pcs w (v :: vs) (b :: bs) := ⟨h, k⟩
theorem Pcs.len {w : World} : ∀ {vs : List Value} {ps : List (List UInt8)}, Pcs w vs ps → vs.length = ps.length
  | [], [], _ => rfl
  | v :: vs, b :: bs, h => by rw [List.length_cons, List.length_cons, Pcs.len h.2]
theorem Pcs.get {w : World} : ∀ {vs : List Value} {ps : List (List UInt8)}, Pcs w vs ps → ∀ i u, vs[i]? = some u → Rd w u (ps.getD i [])
  | [], [], _, i, u, hu => by simp at hu
  | v :: vs, b :: bs, h, 0, u, hu => by
    obtain rfl : v = u := by simpa using hu
    exact h.1
  | v :: vs, b :: bs, h, i + 1, u, hu => Pcs.get h.2 i u (by simpa using hu)

theorem joinN_any (vs : List Value) (ps : List (List UInt8)) (n : Nat) (t : TypeId) (w : World) (hn : n = vs.length) (hm : n ≤ maxLen) (h : Pcs w vs ps) (hl : ps.flatten.length ≤ 140737488355328) :
    Calls Tryd.prog 23 #[.slice (some ⟨w.heap.size, 0, none⟩) n n] (w.alloc (.cells vs.toArray t)) fun e w' => ∃ ao cap, e = .returned (.slice ao ps.flatten.length cap) ∧ Own w' w.heap.size (.slice ao ps.flatten.length cap) ps.flatten ∧ Below w.heap.size w w' := by
  have hbl : Below w.heap.size w (w.alloc (.cells vs.toArray t)) := (Below.refl _ _).alloc (Nat.le_refl _) _
  have hnp : n = ps.length := by rw [hn, h.len]
  have hp : Parts (w.alloc (.cells vs.toArray t)) (.slice (some ⟨w.heap.size, 0, none⟩) n n) ps := by
    refine ⟨vs, h.len, ?_, fun i u hu => RdV.below (h.get i u hu).v hbl⟩
    have := RdV.lit w vs.toArray t n 1 hm (by simp [hn])
    rw [hnp] at this ⊢
    simpa using this
  refine (join_any ps _ _ hp hl).mono ?_
  rintro e w' ⟨ao, cap, rfl, ho, hb⟩
  exact ⟨ao, cap, rfl, ownsRow_mono ho hbl.size, hbl.trans (hb.mono hbl.size)⟩
end Go.Proofs.YthcgalpabjjkoaaDoor

/- XStepApp: append of bytes, of a string, as one step of a region that draws its order. -/
namespace Go.Proofs.YthcgalpabjjkoaaDoor
open Go.RowKit
set_option linter.unusedVariables false

theorem step_append_bs (w : World) {ops : Array Oper} {o : Oper} {a : Act} {K : Act → World → Prop} {Q : Exit → Act → World → Prop} {E : Prop} (hgd : o.guard = none) (s x : Operand)
    (ho : o.op = .call { callee := .builtin .append, args := #[s, x], argTypes := #[33, 33] })
    (base : Nat) (v : Value) (ps : List UInt8) (hs : a.eval s = v) (hown : Own w base v ps) (xv : Value) (bs : List UInt8) (hx : a.eval x = xv) (hrd : Rd w xv bs)
    (L : List UInt8) (hL : L = ps ++ bs) (hlen : ps.length + bs.length ≤ 140737488355328) (hbase : base ≤ w.heap.size)
    (h : ∀ ao cap w', Own w' base (.slice ao L.length cap) L → Chg (fun k => base ≤ k) w w' → K (a.put o.dst (.slice ao L.length cap)) w') :
    if Region.wanted o (yielded ops a.tmps) = true then Oper.wp Tryd.prog o a w K Q else E := by
  subst hL
  refine step_append_rd w hgd s x 33 ho base 5 (.int .u8 0) 1 1 Tryd.underlying33 infoU8 rfl (by decide) v ps.length (ps.map bV) hs hown xv bs.length (bs.map bV) hx hrd (bV_one _) (by unfold maxLen; omega) (by omega) hbase ?_
  intro ao cap w' hg
  have h2 := h ao cap w'
  rw [List.length_append] at h2
  refine h2 ?_ (hg.chg.mono (fun i _ hi => (World.ownsRow.lt hown i hi).1))
  unfold Own
  rw [List.length_append, List.map_append]
  exact hg.owns

theorem step_append_str (w : World) {ops : Array Oper} {o : Oper} {a : Act} {K : Act → World → Prop} {Q : Exit → Act → World → Prop} {E : Prop} (hgd : o.guard = none) (s x : Operand)
    (ho : o.op = .call { callee := .builtin .append, args := #[s, x], argTypes := #[33, 9] })
    (base : Nat) (v : Value) (ps : List UInt8) (hs : a.eval s = v) (hown : Own w base v ps) (xs : ByteArray) (hx : a.eval x = .string xs)
    (L : List UInt8) (hL : L = ps ++ xs.toList) (hlen : ps.length + xs.size ≤ 140737488355328) (hbase : base ≤ w.heap.size)
    (h : ∀ ao cap w', Own w' base (.slice ao L.length cap) L → Chg (fun k => base ≤ k) w w' → K (a.put o.dst (.slice ao L.length cap)) w') :
    if Region.wanted o (yielded ops a.tmps) = true then Oper.wp Tryd.prog o a w K Q else E := by
  subst hL
  have hw : Region.wanted o (yielded ops a.tmps) = true := by simp [Region.wanted, hgd]
  rw [if_pos hw]
  obtain ⟨i, hi, hz, hsize, hby⟩ := info_parts infoU8
  obtain ⟨ao, cap, w', hr, h2⟩ := run_append_str (P := Tryd.prog) w base 33 9 o.type 5 i Tryd.underlying33 Tryd.underlying9 hi hz hsize hby v ps.length (ps.map bV) hown xs (by unfold maxLen; omega) hlen hbase
  unfold Oper.wp execOp
  simp only [ho, resolve, invoke, builtin, Sem.run_bind, Sem.run_pure, Result.andThen_ok, List.map_toArray, List.map_cons, List.map_nil, hs, hx, hr]
  have h3 := h ao cap w'
  rw [List.length_append, toList_len] at h3
  refine h3 ?_ (h2.chg.mono (fun i _ hi => (World.ownsRow.lt hown i hi).1))
  unfold Own
  rw [List.length_append, List.map_append, toList_len]
  exact h2.owns
end Go.Proofs.YthcgalpabjjkoaaDoor

/- XTakes: In a drawn region, by hand: 'x[lo:hi]' and 'string(b)' are taken first. -/
namespace Go.Proofs.YthcgalpabjjkoaaDoor
open Go.RowKit
set_option linter.unusedVariables false

section
variable {P : Program} {ops : Array Oper} {S : World → Prop} {o : Oper} {a : Act}
theorem yields_slice (hw : Region.wanted o (yielded ops a.tmps) = true) (x : Operand) (lo hi : Option Operand) (t : TypeId)
    (ho : o.op = .slice t x lo hi none) (e : TypeId) (size : Nat) (z : Value) (bytes : Nat) (ht : P.underlying t = some (.slice e)) (hinfo : (P.info? e).map (fun i => (i.zero, i.size, i.bytes)) = some (some z, size, bytes))
    (ao : Option Addr) (n cap : Nat) (hx : a.eval x = .slice ao n cap) (l m : Nat)
    (hb : ∀ w, (Instr.sliceBounds true n cap (lo.map a.eval) (hi.map a.eval) none).run P w = .ok (l, m, cap) w) (v : Value) (hv : v = .slice (if cap = l then ao else ao.map (·.add (l * size))) (m - l) (cap - l)) :
    YieldsIf P ops S o v a := by
  obtain ⟨i, hi', hz, hsize, hby⟩ := info_parts hinfo
  refine Or.inl ⟨hw, fun w _ => ?_⟩
  have hrun : (Instr.sliceAt t (.slice ao n cap) (lo.map a.eval) (hi.map a.eval) none).run P w = .ok (.slice (if cap = l then ao else ao.map (·.add (l * size))) (m - l) (cap - l)) w := by
    simp only [Instr.sliceAt, Sem.run_bind, run_underlying ht, Result.andThen_ok, Instr.slice, hb, sizeOf, typeInfo]
    simp [hi', hsize]
  unfold execOp
  simp only [ho, hx, Option.map_none, Sem.run_bind, hrun, Result.andThen_ok, hv]
  rfl

theorem yields_convert (hw : Region.wanted o (yielded ops a.tmps) = true) (x : Operand) (src dst : TypeId) (ho : o.op = .convert src dst x) (u v : Value) (hx : a.eval x = u)
    (h : ∀ w, S w → (convert src dst u).run P w = .ok v w) : YieldsIf P ops S o v a := by
  refine Or.inl ⟨hw, fun w hs => ?_⟩
  unfold execOp
  simp only [ho, hx, Sem.run_bind, h w hs, Result.andThen_ok]
  rfl

/-- The slice that an expression gives: its name, and that it reads. -/
theorem RdV.cutN {w : World} {size n cap : Nat} {ao : Option Addr} {xs : List Value} (h : RdV w size (.slice ao n cap) n xs) (l m : Nat) (hl : l ≤ m) (hm : m ≤ n) :
    ∃ ao2 c2, Value.slice (if cap = l then ao else ao.map (·.add (l * size))) (m - l) (cap - l) = .slice ao2 (m - l) c2 ∧ RdV w size (.slice ao2 (m - l) c2) (m - l) ((xs.drop (l * size)).take ((m - l) * size)) :=
  ⟨_, _, rfl, h.cut l m hl hm⟩
end

/-- The same of bytes. -/
theorem Rd.cutN {w : World} {cap : Nat} {ao : Option Addr} {bs : List UInt8} (h : Rd w (.slice ao bs.length cap) bs) (l m : Nat) (hl : l ≤ m) (hm : m ≤ bs.length) :
    ∃ ao2 c2, Value.slice (if cap = l then ao else ao.map (·.add (l * 1))) (m - l) (cap - l) = .slice ao2 ((bs.drop l).take (m - l)).length c2 ∧ Rd w (.slice ao2 ((bs.drop l).take (m - l)).length c2) ((bs.drop l).take (m - l)) := by
  obtain ⟨ao2, c2, h1, h2⟩ := RdV.cutN h.v l m hl hm
  have e : ((bs.drop l).take (m - l)).length = m - l := by simp; omega
  refine ⟨ao2, c2, by rw [e, h1], ?_⟩
  unfold Rd
  rw [e]
  rw [Nat.mul_one, Nat.mul_one] at h2
  simpa using h2
theorem Rd.cutR {w : World} {cap : Nat} {ao : Option Addr} {bs : List UInt8} (h : Rd w (.slice ao bs.length cap) bs) (l : Nat) (hl : l ≤ bs.length) :
    ∃ ao2 c2, Value.slice (if cap = l then ao else ao.map (·.add (l * 1))) (bs.length - l) (cap - l) = .slice ao2 (bs.drop l).length c2 ∧ Rd w (.slice ao2 (bs.drop l).length c2) (bs.drop l) := by
  obtain ⟨ao2, c2, h1, h2⟩ := h.cutN l bs.length hl (Nat.le_refl _)
  have e : (bs.drop l).take (bs.length - l) = bs.drop l := List.take_of_length_le (by simp)
  rw [e] at h1 h2
  exact ⟨ao2, c2, h1, h2⟩
end Go.Proofs.YthcgalpabjjkoaaDoor

/- XRefPut: The contracts of gristref03's Bits.Put and Of: bits as bytes of their own, one behind the other. -/
namespace Go.Proofs.YthcgalpabjjkoaaDoor
open Go.RowKit

theorem bit_num (x k : Nat) (hx : x < 18446744073709551616) : Go.bits .and .u64 ((x : Int) / 2 ^ k) 1 % 256 = ((b01 ((x / 2 ^ k).testBit 0)).toNat : Int) := by
  have e : ((x : Int) / 2 ^ k) = ((x / 2 ^ k : Nat) : Int) := by simp
  have hd : x / 2 ^ k < 18446744073709551616 := Nat.lt_of_le_of_lt (Nat.div_le_self _ _) hx
  have h := u64_and_nat (x / 2 ^ k) 1 hd (by omega)
  rw [nat_mask1] at h
  rw [e, show (1 : Int) = ((1 : Nat) : Int) from rfl, h, b01_testBit]
  omega

theorem rput_step {x gk N base cap0 cap cap1 : Nat} {bs cur : List UInt8} {ao0 ao ao1 : Option Addr} {w wr w1 : World} {o : Obj} (hx : x < 18446744073709551616)
    (hcur : bs ++ (bitsOf (x / 2 ^ gk) (N - gk)).map b01 = cur) (hnext : bitsOf (x / 2 ^ (gk - 1)) (N - (gk - 1)) = bitsOf (x / 2 ^ gk) (N - gk) ++ [(x / 2 ^ (gk - 1)).testBit 0])
    (hg : Grew w wr base 5 1 (.slice ao0 bs.length cap0) (.slice ao cur.length cap) cur.length (cur.map bV))
    (hg1 : Grew (wr.alloc o) w1 base 5 1 (.slice ao cur.length cap) (.slice ao1 (cur.length + 1) cap1) (cur.length + 1) (cur.map bV ++ [.int .u8 (Go.bits .and .u64 ((x : Int) / 2 ^ (gk - 1)) 1 % 256)])) :
    Value.slice ao1 (cur.length + 1) cap1 = .slice ao1 (bs ++ (bitsOf (x / 2 ^ (gk - 1)) (N - (gk - 1))).map b01).length cap1 ∧
      Grew w w1 base 5 1 (.slice ao0 bs.length cap0) (.slice ao1 (bs ++ (bitsOf (x / 2 ^ (gk - 1)) (N - (gk - 1))).map b01).length cap1) (bs ++ (bitsOf (x / 2 ^ (gk - 1)) (N - (gk - 1))).map b01).length ((bs ++ (bitsOf (x / 2 ^ (gk - 1)) (N - (gk - 1))).map b01).map bV) := by
  have e : bs ++ (bitsOf (x / 2 ^ (gk - 1)) (N - (gk - 1))).map b01 = cur ++ [b01 ((x / 2 ^ (gk - 1)).testBit 0)] := by rw [hnext, ← hcur]; simp
  have e2 : cur.map bV ++ [.int .u8 (Go.bits .and .u64 ((x : Int) / 2 ^ (gk - 1)) 1 % 256)] = (cur ++ [b01 ((x / 2 ^ (gk - 1)).testBit 0)]).map bV := by rw [bit_num x _ hx]; simp [bV]
  have e3 : (cur ++ [b01 ((x / 2 ^ (gk - 1)).testBit 0)]).length = cur.length + 1 := by simp
  rw [e, e3, ← e2]
  exact ⟨rfl, hg.trans hg1.ofAlloc⟩

set_option maxHeartbeats 400000 in
theorem rput_any (x : Nat) (hx : x < 18446744073709551616) (n : Int) (hn : -9223372036854775808 ≤ n ∧ n ≤ 9223372036854775807) (N : Nat) (hN : (N : Int) = min (max n 0) 64) (base : Nat) (v : Value) (bs : List UInt8) (w : World) (hb : base ≤ w.heap.size) (hl : bs.length ≤ 140737488355200) (hown : Own w base v bs) :
    Calls Tryd.prog 65 #[v, .int .u64 x, .int .i64 n] w fun e w' => ∃ ao cap, e = .returned (.slice ao (bs ++ (bitsOf x N).map b01).length cap) ∧
      Grew w w' base 5 1 v (.slice ao (bs ++ (bitsOf x N).map b01).length cap) (bs ++ (bitsOf x N).map b01).length ((bs ++ (bitsOf x N).map b01).map bV) := by
  have hN64 : N ≤ 64 := by omega
  obtain ⟨ao0, cap0, rfl⟩ := hown.shape
  have HN := Lib.hid hN
  clear hN
  go_enter Tryd.func65, Tryd.ntmps65
  go_upto_region 1 with fail
  go_cut [7] (fun s7 wx => wx = w ∧ s7 = .int .i64 ((N : Int) - 1))
  case first =>
    go_wp2_with fail
    all_goals go_meet
    all_goals
      have HN' := HN.out
      go_light
      first
        | exact ⟨rfl, by congr 1; omega⟩
  case rest =>
    obtain ⟨rfl, rfl⟩ := hcut
    go_wp2_with fail
    go_loopg [0, 7] N (fun k s0 s7 wr => k ≤ N ∧ s7 = .int .i64 ((k : Int) - 1) ∧ ∃ ao cap, s0 = .slice ao (bs ++ (bitsOf (x / 2 ^ k) (N - k)).map b01).length cap ∧
      Grew wc wr base 5 1 (.slice ao0 bs.length cap0) (.slice ao (bs ++ (bitsOf (x / 2 ^ k) (N - k)).map b01).length cap) (bs ++ (bitsOf (x / 2 ^ k) (N - k)).map b01).length ((bs ++ (bitsOf (x / 2 ^ k) (N - k)).map b01).map bV))
    case atStart => exact ⟨Nat.le_refl _, rfl, ao0, cap0, by simp [bitsOf], by simpa [bitsOf] using Grew.refl hown⟩
    case round =>
      obtain ⟨hk, rfl, ao, cap, rfl, hg⟩ := hrel
      clear hown
      have hcl : (bs ++ (bitsOf (x / 2 ^ gk) (N - gk)).map b01).length ≤ 140737488355264 := by simp; omega
      by_cases h0 : gk = 0
      · subst h0
        have HG := Lib.hid hg
        clear hg
        go_wp2
        go_ret
        have hg := HG.out
        simp only [Nat.pow_zero, Nat.div_one, Nat.sub_zero] at hg ⊢
        exact ⟨ao, cap, rfl, hg⟩
      · have hnext := bitsOf_next x N gk (by omega) hk
        generalize hcur : bs ++ (bitsOf (x / 2 ^ gk) (N - gk)).map b01 = cur at hg hcl
        have HC := Lib.hid hcur
        have HX := Lib.hid hnext
        have HG := Lib.hid hg
        have hown := hg.owns
        have h63 : cur.length + 1 ≤ maxLen := by unfold maxLen; omega
        have hby : (cur.length + 1) * 1 ≤ 140737488355328 := by omega
        have hba : ∀ o, base ≤ (wr.alloc o).heap.size := fun o => by have := hg.grown.size; simp; omega
        clear hcur hnext hg
        go_wp2_with (at_builtin; refine wpList_append_rd _ rfl (.tmp 16) (.tmp 23) 107 rfl base 5 (.int .u8 0) 1 1 Tryd.underlying107 infoU8 rfl (by decide) _ _ _ rfl (hown.alloc _) (.slice (some ⟨wr.heap.size, 0, none⟩) 1 1) 1 [.int .u8 (Go.bits .and .u64 ((x : Int) / 2 ^ (gk - 1)) 1 % 256)] rfl (RdV.one _ _ _) (one_one _ rfl) h63 hby (hba _) ?_; intro ao1 cap1 w1 hg1)
        have HG1 := Lib.hid hg1
        clear hg1 hown hba
        go_wp2
        go_roundg (gk - 1)
        case measure => go_light; omega
        case rel =>
          go_light
          exact ⟨by omega, by congr 1; omega, ao1, cap1, rput_step hx HC.out HX.out HG.out HG1.out⟩
end Go.Proofs.YthcgalpabjjkoaaDoor

/- XRefBits: The contracts of gristref03's Of, Bits.Bytes and Bits.Get. -/
namespace Go.Proofs.YthcgalpabjjkoaaDoor
open Go.RowKit

/-- Bits as bytes, one a place. -/
def bits01 (l : List Bool) : List UInt8 := l.map b01
theorem bits01_len (l : List Bool) : (bits01 l).length = l.length := by simp [bits01]

/-- The bytes that a making of Bits.Bytes has come to: those of the first k bits, then noughts. -/
def rpart8 (l : List Bool) (k : Nat) : List UInt8 := pack8 (l.take k) ++ List.replicate ((l.length + 7) / 8 - (pack8 (l.take k)).length) 0

theorem rpart8_len (l : List Bool) (k : Nat) : (rpart8 l k).length = (l.length + 7) / 8 := by
  simp only [rpart8, List.length_append, List.length_replicate, length_pack8, List.length_take]
  omega
theorem rpart8_zero (l : List Bool) : rpart8 l 0 = List.replicate ((l.length + 7) / 8) 0 := by simp [rpart8, pack8_nil]
theorem rpart8_all (l : List Bool) : rpart8 l l.length = pack8 l := by simp [rpart8, length_pack8]

theorem or_bit (a p : Nat) (ha : a < 2 ^ p) (hp : p < 8) (b : Bool) :
    (UInt8.ofNat (a * 2 ^ (8 - p))).toNat ||| ((b01 b).toNat * 2 ^ (7 - p)) % 256 = (UInt8.ofNat (a * 2 ^ (8 - p) + (b01 b).toNat * 2 ^ (7 - p))).toNat := by
  refine or_chunk a p _ _ ha (by omega) ?_
  have e : (8 : Nat) - p = (7 - p) + 1 := by omega
  rw [e, Nat.pow_succ]
  have : (b01 b).toNat ≤ 1 := by cases b <;> simp [b01]
  have h2 := Nat.two_pow_pos (7 - p)
  have := Nat.mul_le_mul_right (2 ^ (7 - p)) this
  omega

/-- One bit more. -/
theorem rpart8_next (l : List Bool) (k : Nat) (hk : k < l.length) :
    ∃ a p, a < 2 ^ p ∧ p = k % 8 ∧ (rpart8 l k)[k / 8]? = some (UInt8.ofNat (a * 2 ^ (8 - p))) ∧ rpart8 l (k + 1) = (rpart8 l k).set (k / 8) (UInt8.ofNat (a * 2 ^ (8 - p) + (b01 l[k]).toNat * 2 ^ (7 - p))) := by
  have hlen : (l.take k).length = k := by simp; omega
  have hd := drop8_len (l.take k)
  have hcl := num_lt ((l.take k).drop (8 * ((l.take k).length / 8)))
  rw [hd] at hcl
  rw [hlen] at hcl hd
  have hfull : (pack8 ((l.take k).take (8 * (k / 8)))).length = k / 8 := by
    have := take8_len (l.take k); rw [hlen] at this; rw [length_pack8, this]; omega
  have hch := pack8_chunk (l.take k) [l[k]] (by simp) (by simp; omega)
  rw [hlen] at hch
  have hnum : num [l[k]] = (b01 l[k]).toNat := by cases l[k] <;> simp [num, b01]
  have ht : l.take k ++ [l[k]] = l.take (k + 1) := by rw [List.take_succ_eq_append_getElem hk]
  rw [ht, hnum] at hch
  simp only [List.length_cons, List.length_nil, Nat.zero_add] at hch
  have e7 : 8 - k % 8 - 1 = 7 - k % 8 := by omega
  rw [e7] at hch
  refine ⟨num ((l.take k).drop (8 * (k / 8))), k % 8, hcl, rfl, ?_, ?_⟩
  · by_cases h8 : k % 8 = 0
    · have e0 : (l.take k).drop (8 * (k / 8)) = [] := List.eq_nil_of_length_eq_zero (by rw [hd]; exact h8)
      have hpl : (pack8 (l.take k)).length = k / 8 := by rw [length_pack8, hlen]; omega
      rw [e0, rpart8, List.getElem?_append_right (by omega), hpl, Nat.sub_self, List.getElem?_replicate, if_pos (by omega)]
      simp [num]
    · have hlast := pack8_last (l.take k) (by rw [hlen]; exact h8)
      rw [hlen] at hlast
      rw [rpart8, hlast, List.append_assoc, List.getElem?_append_right (by omega), hfull]
      simp
  · unfold rpart8
    rw [hch]
    by_cases h8 : k % 8 = 0
    · have e0 : (l.take k).drop (8 * (k / 8)) = [] := List.eq_nil_of_length_eq_zero (by rw [hd]; exact h8)
      have hpl : (pack8 (l.take k)).length = k / 8 := by rw [length_pack8, hlen]; omega
      have et : (l.take k).take (8 * (k / 8)) = l.take k := List.take_of_length_le (by rw [hlen]; omega)
      rw [et, List.set_append_right _ _ (by omega), hpl]
      have e2 : (l.length + 7) / 8 - k / 8 = ((l.length + 7) / 8 - (k / 8 + 1)) + 1 := by omega
      rw [e2, List.replicate_succ]
      simp [hpl]
    · have hlast := pack8_last (l.take k) (by rw [hlen]; exact h8)
      rw [hlen] at hlast
      rw [hlast, List.append_assoc, List.append_assoc, List.set_append_right _ _ (by omega), hfull]
      simp [hfull]

theorem rpart8_byte (a p : Nat) (ha : a < 2 ^ p) (hp : p < 8) (b : Bool) :
    Go.bits .or .u8 ((UInt8.ofNat (a * 2 ^ (8 - p))).toNat : Int) (((b01 b).toNat : Int) * 2 ^ (7 - p) % 256) = ((UInt8.ofNat (a * 2 ^ (8 - p) + (b01 b).toNat * 2 ^ (7 - p))).toNat : Int) := by
  have e : ((b01 b).toNat : Int) * 2 ^ (7 - p) % 256 = (((b01 b).toNat * 2 ^ (7 - p) % 256 : Nat) : Int) := by simp
  have h1 := (UInt8.ofNat (a * 2 ^ (8 - p))).toNat_lt
  rw [e, u8_or_nat _ _ (by omega) (by omega), or_bit a p ha hp b]

set_option maxHeartbeats 400000 in
theorem rbytes_any (v : Value) (l : List Bool) (w : World) (hl : l.length ≤ 140737488355328) (hr : Rd w v (bits01 l)) :
    Calls Tryd.prog 66 #[v] w fun e w' => ∃ ao cap, e = .returned (.slice ao (pack8 l).length cap) ∧ Own w' w.heap.size (.slice ao (pack8 l).length cap) (pack8 l) ∧ Below w.heap.size w w' := by
  obtain ⟨ao0, cap0, rfl, hlc, hcm⟩ := RdV.shape hr
  unfold maxLen at hcm
  rw [bits01_len] at hr hlc ⊢
  obtain ⟨i0, hi, hz0, hz1, hz2⟩ := info_parts infoU8
  go_enter Tryd.func66, Tryd.ntmps66
  have hL : ((l.length : Int) + 7) / 8 = (((l.length + 7) / 8 : Nat) : Int) := by omega
  have b2 : i0.bytes * ((l.length + 7) / 8) ≤ 281474976710656 := by rw [hz2]; omega
  have b3 : (l.length + 7) / 8 ≤ maxLen := by unfold maxLen; omega
  have HL := Lib.hid hL
  clear hL
  go_wp2_with (at_make; refine wpList_make_full _ rfl (.tmp 8) (.tmp 8) 33 rfl w.heap.size 5 i0 (.int .u8 0) 1 Tryd.underlying33 hi hz0 hz1 .i64 .i64 _ _ ((l.length + 7) / 8) rfl rfl HL.out HL.out b2 b3 (Nat.le_refl _) ?_; intro w1 hown hgrow)
  have hown' : Own w1 w.heap.size (.slice (some ⟨w.heap.size, 0, none⟩) (rpart8 l 0).length ((l.length + 7) / 8)) (rpart8 l 0) := by
    unfold Own
    rw [rpart8_len, rpart8_zero]
    have h := hown
    simp only [Value.cells, Nat.mul_one] at h
    rw [toList_madeCells_one] at h
    simpa [bV] using h
  have hbel : Below w.heap.size w w1 := (Below.refl _ _).grown hgrow (Nat.le_refl _) (by simp)
  clear hown hgrow
  rw [rpart8_len] at hown'
  go_wp2_with fail
  go_loopg [4, 12] l.length (fun m s4 s12 wr => ∃ k : Nat, k + m = l.length ∧ s12 = .int .i64 k ∧ Own wr w.heap.size (.slice (some ⟨w.heap.size, 0, none⟩) ((l.length + 7) / 8) ((l.length + 7) / 8)) (rpart8 l k) ∧ Below w.heap.size w wr)
  case atStart => exact ⟨0, by omega, rfl, hown', hbel⟩
  case round =>
    obtain ⟨k, hk, rfl, hown, hbel0⟩ := hrel
    clear hown' hbel
    by_cases h0 : gk = 0
    · have HO := Lib.hid hown
      have HB := Lib.hid hbel0
      clear hown hbel0 hr
      obtain rfl : k = l.length := by omega
      go_wp2
      go_ret
      have ho := HO.out
      have e := length_pack8 l
      rw [rpart8_all, ← e] at ho
      rw [← e]
      exact ⟨_, _, rfl, ho, HB.out⟩
    · have hlt : k < l.length := by omega
      have hrr : Rd wr (.slice ao0 l.length cap0) (bits01 l) := RdV.below hr hbel0
      obtain ⟨b, off, cap', he, hcell⟩ := rdOne hrr k (by rw [bits01_len]; exact hlt)
      simp only [Value.slice.injEq] at he
      obtain ⟨rfl, -, rfl⟩ := he
      have ebit : (bits01 l)[k]'(by rw [bits01_len]; exact hlt) = b01 l[k] := by simp [bits01]
      rw [ebit] at hcell
      obtain ⟨bt, hbt⟩ : ∃ bt : UInt8, bt = b01 l[k] := ⟨_, rfl⟩
      rw [← hbt] at hcell
      have hbl := bt.toNat_lt
      obtain ⟨a, p, ha, hp, hat, hnext⟩ := rpart8_next l k hlt
      have ho : wr.ownsRow w.heap.size 5 1 (.slice (some ⟨w.heap.size, 0, none⟩) ((l.length + 7) / 8) ((l.length + 7) / 8)) ((l.length + 7) / 8) ((rpart8 l k).map bV) := by
        have h := hown
        unfold Own at h
        rwa [rpart8_len] at h
      obtain ⟨bo, hbo⟩ : ∃ bo : UInt8, bo = UInt8.ofNat (a * 2 ^ (8 - p)) := ⟨_, rfl⟩
      have hco : wr.cell? ⟨w.heap.size, k / 8, none⟩ = some (.int .u8 (bo.toNat : Int)) := by
        rw [ho.cellAt (k / 8) (by omega), List.getElem?_map, hat, hbo]; rfl
      have hfo := ho.frozenAt (k / 8)
      have hbol := bo.toNat_lt
      have HO := Lib.hid ho
      have HB := Lib.hid hbel0
      have HK := Lib.hid hk
      have HP := Lib.hid hp
      have HA := Lib.hid ha
      have HN := Lib.hid hnext
      have H1 := Lib.hid hbt
      have H2 := Lib.hid hbo
      clear ho hown hbel0 hk hp hat hnext hbt hbo ebit hrr hr ha
      go_upto_region 5 with fail
      go_region
      go_wp2
      go_roundg (gk - 1)
      case measure => go_light; omega
      case rel =>
        go_light
        refine ⟨k + 1, by have := HK.out; omega, by go_num, ?_, ((HB.out.setCell (Nat.le_refl _) _).drew)⟩
        have hst := (HO.out.stored (k / 8) (.int .u8 (Go.bits .or .u8 (bo.toNat : Int) ((bt.toNat : Int) * 2 ^ (7 - k % 8) % 256)))).1
        unfold Own
        rw [rpart8_len, HN.out]
        refine World.ownsRow.drew ?_
        have hv : Value.int .u8 (Go.bits .or .u8 (bo.toNat : Int) ((bt.toNat : Int) * 2 ^ (7 - k % 8) % 256)) = bV (UInt8.ofNat (a * 2 ^ (8 - p) + (b01 l[k]).toNat * 2 ^ (7 - p))) := by
          have hp := HP.out
          rw [H1.out, H2.out, ← hp, rpart8_byte a p HA.out (by omega)]; rfl
        rw [hv] at hst ⊢
        rw [List.map_set]
        exact hst

theorem get_num (v : Nat) (b : Bool) (h : v * 2 + (b01 b).toNat < 18446744073709551616) : Go.bits .or .u64 (IntKind.u64.wrap ((v : Int) * 2)) ((b01 b).toNat : Int) = ((v * 2 + (b01 b).toNat : Nat) : Int) := by
  have hb : (b01 b).toNat < 2 ^ 1 := by cases b <;> simp [b01]
  have e1 : IntKind.u64.wrap ((v : Int) * 2) = ((v * 2 : Nat) : Int) := by rw [IntWalk.u64_in _ (by omega)]; omega
  rw [e1, u64_or_nat _ _ (by omega) (by omega), nat_join 1 (v * 2) _ (by omega) hb]

theorem num_snoc (l : List Bool) (b : Bool) : num (l ++ [b]) = num l * 2 + (b01 b).toNat := by
  rw [num_append]; cases b <;> simp [num, b01]

end Go.Proofs.YthcgalpabjjkoaaDoor

/- XShortPlain: Plain facts on short bytes: seven bits a byte, the lowest first; nothing of the program is in sight here. -/
namespace Go.Proofs.YthcgalpabjjkoaaDoor

/-- A number's short bytes. -/
def short (n : Nat) : List UInt8 := if n < 128 then [UInt8.ofNat n] else UInt8.ofNat (n % 128 + 128) :: short (n / 128)
  termination_by n
  decreasing_by omega

theorem short_lt (n : Nat) (h : n < 128) : short n = [UInt8.ofNat n] := by rw [short, if_pos h]
theorem short_ge (n : Nat) (h : ¬ n < 128) : short n = UInt8.ofNat (n % 128 + 128) :: short (n / 128) := by rw [short, if_neg h]

/-- The number that bytes of seven bits say. -/
def val7 : List UInt8 → Nat
  | [] => 0
  | b :: r => b.toNat % 128 + 128 * val7 r

theorem val7_short (n : Nat) : val7 (short n) = n := by
  induction n using Nat.strongRecOn with
  | ind n ih =>
    by_cases h : n < 128
    · rw [short_lt n h]
      simp [val7]
      omega
    · rw [short_ge n h]
      simp only [val7, ih (n / 128) (by omega), UInt8.toNat_ofNat']
      omega

theorem short_len (n i : Nat) (h : n < 2 ^ (7 * i)) (hi : 1 ≤ i) : (short n).length ≤ i := by
  induction i generalizing n with
  | zero => omega
  | succ i ih =>
    by_cases h1 : n < 128
    · rw [short_lt n h1]; simp
    · rw [short_ge n h1]
      rw [show 7 * (i + 1) = 7 * i + 7 by omega, Nat.pow_add] at h
      have h2 : n / 128 < 2 ^ (7 * i) := Nat.div_lt_of_lt_mul (by rw [Nat.mul_comm]; exact h)
      by_cases hi0 : i = 0
      · subst hi0; simp at h2; omega
      · have := ih _ h2 (by omega)
        simp; omega

theorem val7_append (a b : List UInt8) : val7 (a ++ b) = val7 a + 2 ^ (7 * a.length) * val7 b := by
  induction a with
  | nil => simp [val7]
  | cons x r ih =>
    simp only [List.cons_append, val7, ih, List.length_cons, Nat.mul_add, Nat.pow_add, Nat.mul_one]
    have : (2 : Nat) ^ 7 = 128 := rfl
    rw [this, Nat.mul_comm (2 ^ (7 * r.length)) 128]
    simp only [Nat.mul_assoc]
    omega

theorem val7_lt (a : List UInt8) : val7 a < 2 ^ (7 * a.length) := by
  induction a with
  | nil => simp [val7]
  | cons x r ih =>
    simp only [val7, List.length_cons, Nat.mul_add, Nat.mul_one, Nat.pow_add]
    have : (2 : Nat) ^ 7 = 128 := rfl
    rw [this]
    omega

/-- Bytes that go on, and one that ends: they are their number's short bytes unless a nought ends them that isn't alone. -/
theorem short_val7 : ∀ (pre : List UInt8) (c : UInt8), (∀ x ∈ pre, 128 ≤ x.toNat) → c.toNat < 128 → (c.toNat = 0 → pre = []) → short (val7 (pre ++ [c])) = pre ++ [c]
  | [], c, _, hc, _ => by
    simp only [List.nil_append, val7]
    rw [Nat.mul_zero, Nat.add_zero, Nat.mod_eq_of_lt hc, short_lt _ hc]
    simp
  | x :: r, c, hp, hc, h0 => by
    have hx := hp x (by simp)
    have hxl := x.toNat_lt
    have hc0 : c.toNat ≠ 0 := fun e => by have := h0 e; simp at this
    have ih := short_val7 r c (fun y hy => hp y (by simp [hy])) hc (fun e => absurd e hc0)
    have hpos : 1 ≤ val7 (r ++ [c]) := by
      rw [val7_append]
      simp only [val7, Nat.mul_zero, Nat.add_zero, Nat.mod_eq_of_lt hc]
      have := Nat.two_pow_pos (7 * r.length)
      have : 1 * 1 ≤ 2 ^ (7 * r.length) * c.toNat := Nat.mul_le_mul this (by omega)
      omega
    rw [List.cons_append, val7, short_ge _ (by omega)]
    have e1 : (x.toNat % 128 + 128 * val7 (r ++ [c])) / 128 = val7 (r ++ [c]) := by omega
    have e2 : (x.toNat % 128 + 128 * val7 (r ++ [c])) % 128 + 128 = x.toNat := by omega
    rw [e1, e2, ih]
    simp

/-- The short bytes' form. -/
theorem short_form (n : Nat) : ∃ pre c, short n = pre ++ [c] ∧ (∀ x ∈ pre, 128 ≤ x.toNat) ∧ c.toNat < 128 ∧ (c.toNat = 0 → pre = []) := by
  induction n using Nat.strongRecOn with
  | ind n ih =>
    by_cases h : n < 128
    · refine ⟨[], UInt8.ofNat n, by rw [short_lt n h]; rfl, by simp, by simp; omega, fun _ => rfl⟩
    · obtain ⟨pre, c, he, hp, hc, h0⟩ := ih (n / 128) (by omega)
      refine ⟨UInt8.ofNat (n % 128 + 128) :: pre, c, by rw [short_ge n h, he]; rfl, ?_, hc, fun e => ?_⟩
      · intro x hx
        rcases List.mem_cons.1 hx with rfl | hx
        · simp; omega
        · exact hp x hx
      · exfalso
        have hpre := h0 e
        subst hpre
        have hv := val7_short (n / 128)
        rw [he] at hv
        simp [val7, e] at hv
        omega

/-- Reading short bytes, from the place i on, n being read so far: the number, and how many bytes; noughts: there is none. -/
def rs : List UInt8 → Nat → Nat → Nat × Nat
  | [], _, _ => (0, 0)
  | c :: r, i, n =>
    if i = 9 ∧ 1 < c.toNat then (0, 0)
    else if c.toNat < 128 then (if c.toNat = 0 ∧ 0 < i then (0, 0) else (n + c.toNat % 128 * 2 ^ (7 * i), i + 1))
    else rs r (i + 1) (n + c.toNat % 128 * 2 ^ (7 * i))

/-- At a byte that ends: are the bytes so far the short bytes of what they say? -/
theorem short_test (pre : List UInt8) (c : UInt8) (hp : ∀ x ∈ pre, 128 ≤ x.toNat) (hc : c.toNat < 128) (hl : pre.length ≤ 9) :
    short ((val7 pre + c.toNat % 128 * 2 ^ (7 * pre.length)) % 18446744073709551616) = pre ++ [c] ↔ ¬ (pre.length = 9 ∧ 1 < c.toNat) ∧ ¬ (c.toNat = 0 ∧ 0 < pre.length) := by
  have hv : val7 (pre ++ [c]) = val7 pre + c.toNat % 128 * 2 ^ (7 * pre.length) := by
    rw [val7_append]; simp only [val7, Nat.mul_zero, Nat.add_zero]; rw [Nat.mul_comm]
  have hlt := val7_lt pre
  rw [← hv]
  by_cases h9 : pre.length = 9 ∧ 1 < c.toNat
  · refine ⟨fun e => False.elim ?_, fun h => absurd h9 h.1⟩
    have h1 := val7_short (val7 (pre ++ [c]) % 18446744073709551616)
    rw [e] at h1
    have h2 : 18446744073709551616 ≤ val7 (pre ++ [c]) := by
      rw [hv, h9.1, Nat.mod_eq_of_lt hc]
      have : 2 * 2 ^ 63 ≤ c.toNat * 2 ^ (7 * 9) := Nat.mul_le_mul (by omega) (by decide)
      omega
    have h3 := Nat.mod_lt (val7 (pre ++ [c])) (show 0 < 18446744073709551616 by omega)
    omega
  · have hsm : val7 (pre ++ [c]) < 18446744073709551616 := by
      by_cases h8 : pre.length = 9
      · have hc1 : c.toNat ≤ 1 := by omega
        rw [hv, h8, Nat.mod_eq_of_lt hc]
        rw [h8] at hlt
        have : c.toNat * 2 ^ (7 * 9) ≤ 1 * 2 ^ 63 := Nat.mul_le_mul hc1 (by decide)
        have e63 : (2 : Nat) ^ (7 * 9) = 9223372036854775808 := by decide
        omega
      · have h4 := val7_lt (pre ++ [c])
        have h5 : (2 : Nat) ^ (7 * (pre ++ [c]).length) ≤ 2 ^ 63 := Nat.pow_le_pow_right (by omega) (by simp; omega)
        have e63 : (2 : Nat) ^ 63 = 9223372036854775808 := by decide
        omega
    rw [Nat.mod_eq_of_lt hsm]
    by_cases h0 : c.toNat = 0 ∧ 0 < pre.length
    · refine ⟨fun e => False.elim ?_, fun h => absurd h0 h.2⟩
      obtain ⟨pre2, c2, he, _, _, h02⟩ := short_form (val7 (pre ++ [c]))
      rw [e] at he
      have := List.append_inj' he rfl
      obtain ⟨rfl, hcc⟩ := this
      simp at hcc
      subst hcc
      have := h02 h0.1
      rw [this] at h0
      simp at h0
    · refine ⟨fun _ => ⟨h9, h0⟩, fun _ => short_val7 pre c hp hc fun e => ?_⟩
      by_cases hl0 : pre.length = 0
      · exact List.eq_nil_of_length_eq_zero hl0
      · exact absurd ⟨e, by omega⟩ h0

/-- What was written is read, whatever stands behind. -/
theorem rs_form : ∀ (suf : List UInt8) (c : UInt8) (i n : Nat) (b : List UInt8), (∀ x ∈ suf, 128 ≤ x.toNat) → c.toNat < 128 → (c.toNat = 0 → suf = [] ∧ i = 0) → i + suf.length ≤ 9 → (i + suf.length = 9 → c.toNat ≤ 1) →
    rs (suf ++ [c] ++ b) i n = (n + val7 (suf ++ [c]) * 2 ^ (7 * i), i + suf.length + 1)
  | [], c, i, n, b, _, hc, h0, hl, h9 => by
    simp only [List.nil_append, List.cons_append, rs, val7, Nat.mul_zero, Nat.add_zero, List.length_nil]
    rw [if_neg (by intro h; have := h9 (by simpa using h.1); omega), if_pos hc, if_neg (by intro h; have := (h0 h.1).2; omega)]
  | x :: r, c, i, n, b, hp, hc, h0, hl, h9 => by
    have hx := hp x (by simp)
    simp only [List.cons_append, rs, List.length_cons] at hl h9 ⊢
    rw [if_neg (by intro h; omega), if_neg (by omega)]
    have ih := rs_form r c (i + 1) (n + x.toNat % 128 * 2 ^ (7 * i)) b (fun y hy => hp y (by simp [hy])) hc (fun e => by have := (h0 e).1; simp at this) (by omega) (fun e => h9 (by omega))
    rw [List.append_assoc] at ih ⊢
    rw [ih]
    simp only [val7, Prod.mk.injEq]
    refine ⟨?_, by omega⟩
    rw [show 7 * (i + 1) = 7 * i + 7 by omega, Nat.pow_add, show (2 : Nat) ^ 7 = 128 from rfl, Nat.add_mul, Nat.mul_assoc 128, Nat.mul_comm (2 ^ (7 * i)) 128, Nat.mul_left_comm]
    omega

theorem rs_short (n : Nat) (hn : n < 18446744073709551616) (b : List UInt8) : rs (short n ++ b) 0 0 = (n, (short n).length) := by
  obtain ⟨pre, c, he, hp, hc, h0⟩ := short_form n
  have hv := val7_short n
  have hl : (short n).length ≤ 10 := short_len n 10 (Nat.lt_of_lt_of_le hn (by decide)) (by omega)
  rw [he] at hv hl ⊢
  simp at hl
  have h := rs_form pre c 0 0 b hp hc (fun e => ⟨h0 e, rfl⟩) (by omega) (fun e => by
    rw [val7_append] at hv
    simp only [val7, Nat.mul_zero, Nat.add_zero, Nat.mod_eq_of_lt hc] at hv
    have e9 : pre.length = 9 := by omega
    rw [e9] at hv
    have : (2 : Nat) ^ (7 * 9) = 9223372036854775808 := by decide
    rw [this] at hv
    omega)
  rw [h, hv]
  simp

end Go.Proofs.YthcgalpabjjkoaaDoor

/- XShort: The contracts of bits.Short, bits.ReadShort and of the references' Short and ReadShort. -/
namespace Go.Proofs.YthcgalpabjjkoaaDoor
open Go.RowKit
set_option linter.unusedVariables false

theorem short_or (n : Nat) : Go.bits .or .u8 (((n : Nat) : Int) % 256) 128 = ((UInt8.ofNat (n % 128 + 128)).toNat : Int) := by
  have e : ((n : Nat) : Int) % 256 = ((n % 256 : Nat) : Int) := by omega
  rw [e, show (128 : Int) = ((128 : Nat) : Int) from rfl, u8_or_nat _ _ (by omega) (by omega)]
  have h : n % 256 ||| 128 = n % 128 + 128 := by
    have h1 : n % 256 = n % 128 ∨ n % 256 = n % 128 + 128 := by omega
    have h2 : n % 128 < 2 ^ 7 := by omega
    have h3 : n % 128 ||| 128 = n % 128 + 128 := by
      rw [Nat.or_comm, nat_join 7 128 _ (by decide) h2]; omega
    rcases h1 with h1 | h1
    · rw [h1, h3]
    · rw [h1, ← h3, Nat.or_assoc, Nat.or_self]
  rw [h]
  simp
  omega

set_option maxHeartbeats 400000 in
theorem short_any (n : Nat) (hn : n < 18446744073709551616) (w : World) :
    Calls Tryd.prog 79 #[.int .u64 n] w fun e w' => ∃ ao cap, e = .returned (.slice ao (short n).length cap) ∧ Own w' w.heap.size (.slice ao (short n).length cap) (short n) ∧ Below w.heap.size w w' := by
  have hlen := short_len n 10 (Nat.lt_of_lt_of_le hn (by decide)) (by omega)
  go_enter Tryd.func79, Tryd.ntmps79
  go_wp2_with fail
  go_loopg [0, 3] n (fun m s0 s3 wr => s0 = .int .u64 (m : Nat) ∧ m < 18446744073709551616 ∧ ∃ acc ao cap, acc ++ short m = short n ∧ s3 = .slice ao acc.length cap ∧ Own wr w.heap.size (.slice ao acc.length cap) acc ∧ Below w.heap.size w wr)
  case atStart => exact ⟨rfl, hn, [], none, 0, rfl, rfl, Own.nil _ _, Below.refl _ _⟩
  case round =>
    obtain ⟨rfl, hm, acc, ao, cap, hacc, rfl, hown, hbel⟩ := hrel
    have hal : acc.length + (short gk).length ≤ 10 := by rw [← List.length_append, hacc]; exact hlen
    have h63 : acc.length + 1 ≤ maxLen := by unfold maxLen; omega
    have hby : (acc.length + 1) * 1 ≤ 140737488355328 := by omega
    have hba : ∀ o, w.heap.size ≤ (wr.alloc o).heap.size := fun o => by have := hbel.size; simp; omega
    have hlow : ∀ r, (Value.slice ao acc.length cap).ownBlock = some r → w.heap.size ≤ r := fun r hr => (hown.lt r hr).1
    have HA := Lib.hid hacc
    have HB := Lib.hid hbel
    have HL := Lib.hid hlow
    clear hacc hbel hlow
    by_cases h : 127 < gk
    · go_wp2_with (at_builtin; refine wpList_append_rd _ rfl (.tmp 8) (.tmp 12) 33 rfl w.heap.size 5 (.int .u8 0) 1 1 Tryd.underlying33 infoU8 rfl (by decide) _ _ _ rfl (hown.alloc _) (.slice (some ⟨wr.heap.size, 0, none⟩) 1 1) 1 [.int .u8 (Go.bits .or .u8 ((gk : Int) % 256) 128)] rfl (RdV.one _ _ _) (one_one _ rfl) h63 hby (hba _) ?_; intro ao1 cap1 w1 hg1; have HG := Lib.hid hg1; clear hg1)
      go_roundg (gk / 128)
      case measure => go_light; omega
      case rel =>
        go_light
        have hg := HG.out.ofAlloc
        have e2 : acc.map bV ++ [.int .u8 (Go.bits .or .u8 ((gk : Int) % 256) 128)] = (acc ++ [UInt8.ofNat (gk % 128 + 128)]).map bV := by rw [short_or]; simp [bV]
        rw [e2] at hg
        refine ⟨by congr 1, by omega, acc ++ [UInt8.ofNat (gk % 128 + 128)], ao1, cap1, ?_, by simp, by simpa [Own] using hg.owns, HB.out.trans (hg.below HB.out.size HL.out)⟩
        rw [← HA.out, short_ge gk (by omega), List.append_assoc]; rfl
    · go_wp2_with (at_builtin; refine wpList_append_rd _ rfl (.tmp 14) (.tmp 17) 33 rfl w.heap.size 5 (.int .u8 0) 1 1 Tryd.underlying33 infoU8 rfl (by decide) _ _ _ rfl (hown.alloc _) (.slice (some ⟨wr.heap.size, 0, none⟩) 1 1) 1 [.int .u8 (gk : Int)] rfl (RdV.one _ _ _) (one_one _ rfl) h63 hby (hba _) ?_; intro ao1 cap1 w1 hg1; have HG := Lib.hid hg1; clear hg1)
      go_ret
      have hg := HG.out.ofAlloc
      have e2 : acc.map bV ++ [.int .u8 (gk : Int)] = (acc ++ [UInt8.ofNat gk]).map bV := by simp [bV]; omega
      have e3 : acc ++ [UInt8.ofNat gk] = short n := by rw [← HA.out, short_lt gk (by omega)]
      have e4 : acc.length + 1 = (short n).length := by rw [← e3]; simp
      rw [e2, e3, e4] at hg
      refine ⟨ao1, cap1, by rw [e4]; rfl, hg.owns, HB.out.trans (hg.below HB.out.size HL.out)⟩

set_option maxHeartbeats 400000 in
theorem rshort_any (n : Nat) (hn : n < 18446744073709551616) (w : World) :
    Calls Tryd.prog 67 #[.int .u64 n] w fun e w' => ∃ ao cap, e = .returned (.slice ao (short n).length cap) ∧ Own w' w.heap.size (.slice ao (short n).length cap) (short n) ∧ Below w.heap.size w w' := by
  have hlen := short_len n 10 (Nat.lt_of_lt_of_le hn (by decide)) (by omega)
  go_enter Tryd.func67, Tryd.ntmps67
  go_wp2_with fail
  go_loopg [0, 3] n (fun m s0 s3 wr => s0 = .int .u64 (m : Nat) ∧ m < 18446744073709551616 ∧ ∃ acc ao cap, acc ++ short m = short n ∧ s3 = .slice ao acc.length cap ∧ Own wr w.heap.size (.slice ao acc.length cap) acc ∧ Below w.heap.size w wr)
  case atStart => exact ⟨rfl, hn, [], none, 0, rfl, rfl, Own.nil _ _, Below.refl _ _⟩
  case round =>
    obtain ⟨rfl, hm, acc, ao, cap, hacc, rfl, hown, hbel⟩ := hrel
    have hal : acc.length + (short gk).length ≤ 10 := by rw [← List.length_append, hacc]; exact hlen
    have h63 : acc.length + 1 ≤ maxLen := by unfold maxLen; omega
    have hby : (acc.length + 1) * 1 ≤ 140737488355328 := by omega
    have hba : ∀ o, w.heap.size ≤ (wr.alloc o).heap.size := fun o => by have := hbel.size; simp; omega
    have hlow : ∀ r, (Value.slice ao acc.length cap).ownBlock = some r → w.heap.size ≤ r := fun r hr => (hown.lt r hr).1
    have HA := Lib.hid hacc
    have HB := Lib.hid hbel
    have HL := Lib.hid hlow
    clear hacc hbel hlow
    by_cases h : (128 : Int) ≤ (gk : Int)
    · go_wp2_with (at_builtin; refine wpList_append_rd _ rfl (.tmp 6) (.tmp 11) 33 rfl w.heap.size 5 (.int .u8 0) 1 1 Tryd.underlying33 infoU8 rfl (by decide) _ _ _ rfl (hown.alloc _) (.slice (some ⟨wr.heap.size, 0, none⟩) 1 1) 1 [_] rfl (RdV.one _ _ _) (one_one _ rfl) h63 hby (hba _) ?_; intro ao1 cap1 w1 hg1; have HG := Lib.hid hg1; clear hg1)
      go_roundg (gk / 128)
      case measure => go_light; omega
      case rel =>
        go_light
        have hg := HG.out.ofAlloc
        have e2 : acc.map bV ++ [.int .u8 ((gk : Int) % 128 + 128)] = (acc ++ [UInt8.ofNat (gk % 128 + 128)]).map bV := by simp [bV]; omega
        rw [e2] at hg
        refine ⟨by congr 1, by omega, acc ++ [UInt8.ofNat (gk % 128 + 128)], ao1, cap1, ?_, by simp, by simpa [Own] using hg.owns, HB.out.trans (hg.below HB.out.size HL.out)⟩
        rw [← HA.out, short_ge gk (by omega), List.append_assoc]; rfl
    · go_wp2_with (at_builtin; refine wpList_append_rd _ rfl (.tmp 15) (.tmp 18) 33 rfl w.heap.size 5 (.int .u8 0) 1 1 Tryd.underlying33 infoU8 rfl (by decide) _ _ _ rfl (hown.alloc _) (.slice (some ⟨wr.heap.size, 0, none⟩) 1 1) 1 [_] rfl (RdV.one _ _ _) (one_one _ rfl) h63 hby (hba _) ?_; intro ao1 cap1 w1 hg1; have HG := Lib.hid hg1; clear hg1)
      go_ret
      have hg := HG.out.ofAlloc
      have e2 : acc.map bV ++ [.int .u8 (gk : Int)] = (acc ++ [UInt8.ofNat gk]).map bV := by simp [bV]; omega
      have e3 : acc ++ [UInt8.ofNat gk] = short n := by rw [← HA.out, short_lt gk (by omega)]
      have e4 : acc.length + 1 = (short n).length := by rw [← e3]; simp
      rw [e2, e3, e4] at hg
      refine ⟨ao1, cap1, by rw [e4]; rfl, hg.owns, HB.out.trans (hg.below HB.out.size HL.out)⟩

theorem ret_pair {k k' : IntKind} {a b a' b' : Int} (h : a = a') (h' : b = b') : Ending.returned (.tuple #[.int k a, .int k' b]) = .returned (.tuple #[.int k a', .int k' b']) := by rw [h, h']

/-- One byte more, in the walk's numbers. -/
theorem rs_num (n i : Nat) (c : UInt8) (hn : n < 2 ^ (7 * i)) (hi : i < 10) (h9 : i = 9 → c.toNat % 128 ≤ 1) :
    Go.bits .or .u64 (n : Int) (IntKind.u64.wrap (IntKind.u64.wrap (Go.bits .and .u8 (c.toNat : Int) 127) * 2 ^ (7 * i))) = ((n + c.toNat % 128 * 2 ^ (7 * i) : Nat) : Int) ∧ n + c.toNat % 128 * 2 ^ (7 * i) < 2 ^ (7 * (i + 1)) ∧ n + c.toNat % 128 * 2 ^ (7 * i) < 18446744073709551616 := by
  have hc := c.toNat_lt
  have e1 : Go.bits .and .u8 (c.toNat : Int) 127 = ((c.toNat % 128 : Nat) : Int) := by
    have h := u8_and_nat c.toNat 127 (by omega) (by omega)
    rw [nat_mask7] at h
    exact h
  have hp : 0 < (2 : Nat) ^ (7 * i) := Nat.two_pow_pos _
  have hmul : (c.toNat % 128 + 1) * 2 ^ (7 * i) ≤ 128 * 2 ^ (7 * i) := Nat.mul_le_mul_right _ (by omega)
  rw [Nat.add_mul] at hmul
  have e128 : 128 * (2 : Nat) ^ (7 * i) = 2 ^ (7 * (i + 1)) := by rw [show 7 * (i + 1) = 7 * i + 7 by omega, Nat.pow_add, Nat.mul_comm]
  have hlt : n + c.toNat % 128 * 2 ^ (7 * i) < 2 ^ (7 * (i + 1)) := by omega
  have h64 : n + c.toNat % 128 * 2 ^ (7 * i) < 18446744073709551616 := by
    by_cases h8 : i = 9
    · have h1 := h9 h8
      have h2 : c.toNat % 128 * 2 ^ (7 * i) ≤ 1 * 2 ^ (7 * i) := Nat.mul_le_mul_right _ h1
      rw [h8] at h2 hn ⊢
      have e63 : (2 : Nat) ^ (7 * 9) = 9223372036854775808 := by decide
      omega
    · have h5 : (2 : Nat) ^ (7 * (i + 1)) ≤ 2 ^ 63 := Nat.pow_le_pow_right (by omega) (by omega)
      have e63 : (2 : Nat) ^ 63 = 9223372036854775808 := by decide
      omega
  refine ⟨?_, hlt, h64⟩
  have e2 : ((c.toNat % 128 : Nat) : Int) * 2 ^ (7 * i) = ((c.toNat % 128 * 2 ^ (7 * i) : Nat) : Int) := by simp
  rw [e1, IntWalk.u64_in ((c.toNat % 128 : Nat) : Int) (by omega), e2, IntWalk.u64_in _ (by omega), u64_or_nat _ _ (by omega) (by omega), Nat.or_comm, nat_join (7 * i) _ _ (by simp) hn, Nat.add_comm]

set_option maxHeartbeats 400000 in
theorem readShort_any (v : Value) (bs : List UInt8) (w : World) (hl : bs.length ≤ 140737488355328) (hr : Rd w v bs) :
    Calls Tryd.prog 96 #[v] w fun e w' => e = .returned (.tuple #[.int .u64 ((rs bs 0 0).1 : Nat), .int .i64 ((rs bs 0 0).2 : Nat)]) ∧ w = w' := by
  obtain ⟨ao0, cap0, rfl, hlc, hcm⟩ := RdV.shape hr
  unfold maxLen at hcm
  go_enter Tryd.func96, Tryd.ntmps96
  go_wp2_with fail
  go_loopg [4, 5, 6, 9] bs.length (fun m s4 s5 s6 s9 wr => wr = w ∧ ∃ i n : Nat, i + m = bs.length ∧ i ≤ 9 ∧ s9 = .int .i64 (i : Nat) ∧ s4 = .int .u64 (n : Nat) ∧ n < 2 ^ (7 * i) ∧ rs (bs.drop i) i n = rs bs 0 0)
  case atStart => exact ⟨rfl, 0, 0, by omega, by omega, rfl, rfl, by simp, rfl⟩
  case round =>
    obtain ⟨rfl, i, n, hi, hi10, rfl, rfl, hn, hrs⟩ := hrel
    by_cases h0 : gk = 0
    · obtain rfl : i = bs.length := by omega
      have E := Lib.hid (show rs bs 0 0 = (0, 0) by rw [← hrs, List.drop_length]; rfl)
      clear hrs hn
      go_wp2
      go_ret2
      rw [E.out]
      exact ⟨rfl, rfl⟩
    · have hlt : i < bs.length := by omega
      obtain ⟨b, off, cap', he, hcell⟩ := rdOne hr i hlt
      simp only [Value.slice.injEq, true_and] at he
      obtain ⟨rfl, rfl⟩ := he
      obtain ⟨c, hc⟩ : ∃ c, c = bs[i] := ⟨_, rfl⟩
      have hdrop : bs.drop i = c :: bs.drop (i + 1) := by rw [hc, List.getElem_cons_drop]
      rw [hdrop] at hrs
      rw [← hc] at hcell
      have hcb := c.toNat_lt
      have hstep : rs (c :: bs.drop (i + 1)) i n = if i = 9 ∧ 1 < c.toNat then (0, 0)
        else if c.toNat < 128 then (if c.toNat = 0 ∧ 0 < i then (0, 0) else (n + c.toNat % 128 * 2 ^ (7 * i), i + 1))
        else rs (bs.drop (i + 1)) (i + 1) (n + c.toNat % 128 * 2 ^ (7 * i)) := rfl
      rw [hstep] at hrs
      obtain ⟨x, hx⟩ : ∃ x : Int, x = (c.toNat : Int) := ⟨_, rfl⟩
      rw [← hx] at hcell
      have hx0 : 0 ≤ x := by omega
      have hx1 : x ≤ 255 := by omega
      have HR := Lib.hid hrs
      have HI := Lib.hid hi
      have HN := Lib.hid hn
      have HX := Lib.hid hx
      clear hrs hi hn hstep hdrop hc hr hcb
      by_cases h9 : i = 9 ∧ 1 < c.toNat
      · obtain ⟨rfl, h1⟩ := h9
        have h1' : 1 < x := by omega
        have E := Lib.hid (show rs bs 0 0 = (0, 0) by rw [← HR.out, if_pos ⟨rfl, h1⟩])
        clear h1 HR hx
        go_wp2
        go_ret2
        rw [E.out]
        exact ⟨rfl, rfl⟩
      · have hnum := rs_num n i c HN.out (by omega) (by omega)
        obtain ⟨hnum1, hnum2, hnum3⟩ := hnum
        rw [← hx] at hnum1
        have HU := Lib.hid hnum1
        clear hnum1
        have hR2 := HR.out
        rw [if_neg h9] at hR2
        have h9i : (i : Int) < 9 ∨ ((i : Int) = 9 ∧ x ≤ 1) := by omega
        clear HR
        by_cases h128 : c.toNat < 128
        · have h128' : x < 128 := by omega
          rw [if_pos h128] at hR2
          by_cases hz : c.toNat = 0 ∧ 0 < i
          · rw [if_pos hz] at hR2
            have E := Lib.hid hR2.symm
            have hz2 : (0 : Int) < (i : Int) := by omega
            obtain rfl : x = 0 := by omega
            have h9j : (i : Int) < 9 ∨ i = 9 := by omega
            clear hR2 hz h128 h9 hnum2 hnum3 HU h128' h9i hx0 hx1 hx
            rcases h9j with h9i | rfl
            all_goals
              go_wp2
              go_ret2
              rw [E.out]
              exact ⟨rfl, rfl⟩
          · rw [if_neg hz] at hR2
            have E := Lib.hid hR2.symm
            have hz' : 0 < x ∧ (i : Int) < 9 ∨ 0 < x ∧ x ≤ 1 ∧ i = 9 ∨ i = 0 ∧ x = 0 := by omega
            clear hR2 hz h128 h9 hnum2 hnum3 h9i hx
            rcases hz' with ⟨hz', h9i⟩ | ⟨hz', h9i, rfl⟩ | ⟨rfl, rfl⟩
            · go_wp2
              go_ret2
              rw [E.out]
              exact ⟨ret_pair HU.out (by omega), rfl⟩
            · go_wp2
              go_ret2
              rw [E.out]
              exact ⟨ret_pair HU.out (by omega), rfl⟩
            · simp only [Nat.add_zero] at hcell
              go_wp2
              go_ret2
              rw [E.out]
              exact ⟨ret_pair HU.out (by omega), rfl⟩
        · have h128' : ¬ x < 128 := by omega
          rw [if_neg h128] at hR2
          have E := Lib.hid hR2
          have hi8 : i ≤ 8 := by omega
          have h9f : ((i : Int) == 9) = false := by simp; omega
          have H2 := Lib.hid hnum2
          clear hR2 h128 h9 hnum2 hnum3 h9i hx
          go_wp2
          go_roundg (gk - 1)
          case measure => go_light; omega
          case rel =>
            go_light
            rw [HU.out]
            exact ⟨rfl, i + 1, n + c.toNat % 128 * 2 ^ (7 * i), by have := HI.out; omega, by omega, by go_num, rfl, H2.out, E.out⟩

/-- The same, a bit cut off above. -/
theorem rs_num_mod (n i : Nat) (c : UInt8) (hn : n < 2 ^ (7 * i)) (hi : i < 10) :
    Go.bits .or .u64 (n : Int) (IntKind.u64.wrap (IntKind.u64.wrap (Go.bits .and .u8 (c.toNat : Int) 127) * 2 ^ (7 * i))) = (((n + c.toNat % 128 * 2 ^ (7 * i)) % 18446744073709551616 : Nat) : Int) := by
  by_cases h : i = 9 → c.toNat % 128 ≤ 1
  · obtain ⟨h1, _, h3⟩ := rs_num n i c hn hi h
    rw [h1, Nat.mod_eq_of_lt h3]
  · have hi9 : i = 9 := by
      by_cases h9 : i = 9
      · exact h9
      · exact absurd (fun e => absurd e h9) h
    subst hi9
    have hc := c.toNat_lt
    have e1 : Go.bits .and .u8 (c.toNat : Int) 127 = ((c.toNat % 128 : Nat) : Int) := by
      have h := u8_and_nat c.toNat 127 (by omega) (by omega)
      rw [nat_mask7] at h
      exact h
    have e63 : (2 : Nat) ^ (7 * 9) = 9223372036854775808 := by decide
    have e63' : (2 : Int) ^ (7 * 9) = 9223372036854775808 := by decide
    rw [e63] at hn ⊢
    rw [e1, IntWalk.u64_in ((c.toNat % 128 : Nat) : Int) (by omega), e63', IntKind.wrap_u64]
    have e2 : ((c.toNat % 128 : Nat) : Int) * 9223372036854775808 % 18446744073709551616 = ((c.toNat % 2 * 9223372036854775808 : Nat) : Int) := by omega
    rw [e2, u64_or_nat _ _ (by omega) (by omega), Nat.or_comm, nat_join 63 _ _ (by omega) (by simpa using hn)]
    omega

end Go.Proofs.YthcgalpabjjkoaaDoor

/- XZig: The contracts of bits.Zig, bits.Zag and of the references' Zig, Zag: they only compute. -/
namespace Go.Proofs.YthcgalpabjjkoaaDoor
open Go.RowKit

/-- An int64 of a number without a sign, and back. -/
def zigN (n : Int) : Nat := if n < 0 then (-2 * n - 1).toNat else (2 * n).toNat
def zagZ (m : Nat) : Int := if m % 2 = 1 then -((m / 2 : Nat) : Int) - 1 else ((m / 2 : Nat) : Int)

theorem zigN_lt (n : Int) (hn : -9223372036854775808 ≤ n ∧ n ≤ 9223372036854775807) : zigN n < 18446744073709551616 := by
  unfold zigN; split <;> omega
theorem zagZ_bd (m : Nat) (hm : m < 18446744073709551616) : -9223372036854775808 ≤ zagZ m ∧ zagZ m ≤ 9223372036854775807 := by
  unfold zagZ; split <;> omega
theorem zag_zig (n : Int) : zagZ (zigN n) = n := by
  unfold zagZ zigN; split <;> split <;> omega
theorem zig_zag (m : Nat) : zigN (zagZ m) = m := by
  unfold zagZ zigN; split <;> split <;> omega

theorem xor_ones (a : Nat) (ha : a < 18446744073709551616) : a ^^^ 18446744073709551615 = 18446744073709551615 - a := by
  have h : (BitVec.ofNat 64 a ^^^ BitVec.allOnes 64).toNat = (~~~ BitVec.ofNat 64 a).toNat := by rw [BitVec.xor_allOnes]
  simpa [BitVec.toNat_xor, BitVec.toNat_not, BitVec.toNat_allOnes, Nat.mod_eq_of_lt ha] using h

theorem u64_xor_ones (a : Nat) (ha : a < 18446744073709551616) : Go.bits .xor .u64 (a : Int) 18446744073709551615 = 18446744073709551615 - (a : Int) := by
  have h := u64_xor_nat a 18446744073709551615 ha (by omega)
  rw [xor_ones a ha] at h
  simpa [Int.ofNat_sub (show a ≤ 18446744073709551615 by omega)] using h

theorem u64_xor_zero (a : Nat) (ha : a < 18446744073709551616) : Go.bits .xor .u64 (a : Int) 0 = (a : Int) := by
  have h := u64_xor_nat a 0 ha (by omega)
  simpa using h

theorem zig_num (n : Int) (hn : -9223372036854775808 ≤ n ∧ n ≤ 9223372036854775807) :
    Go.bits .xor .u64 (IntKind.u64.wrap (IntKind.u64.wrap n * 2)) (IntKind.u64.wrap (n / 9223372036854775808)) = (zigN n : Int) := by
  by_cases h : n < 0
  · have e1 : IntKind.u64.wrap (n / 9223372036854775808) = 18446744073709551615 := by rw [IntKind.wrap_u64]; omega
    have e2 : IntKind.u64.wrap (IntKind.u64.wrap n * 2) = (((18446744073709551616 + 2 * n).toNat : Nat) : Int) := by rw [IntKind.wrap_u64, IntKind.wrap_u64]; omega
    rw [e1, e2, u64_xor_ones _ (by omega)]
    unfold zigN
    rw [if_pos h]
    omega
  · have e1 : IntKind.u64.wrap (n / 9223372036854775808) = 0 := by rw [IntKind.wrap_u64]; omega
    have e2 : IntKind.u64.wrap (IntKind.u64.wrap n * 2) = (((2 * n).toNat : Nat) : Int) := by rw [IntKind.wrap_u64, IntKind.wrap_u64]; omega
    rw [e1, e2, u64_xor_zero _ (by omega)]
    unfold zigN
    rw [if_neg h]

theorem i64_xor (k : Nat) (hk : k < 9223372036854775808) : Go.bits .xor .i64 (k : Int) 0 = (k : Int) ∧ Go.bits .xor .i64 (k : Int) (-1) = -(k : Int) - 1 := by
  constructor
  · simp only [Go.bits, IntKind.bits]
    have : (BitVec.ofInt 64 (k : Int) ^^^ BitVec.ofInt 64 0).toNat = k := by simp; omega
    exact (congrArg (fun x : Nat => IntKind.i64.wrap (x : Int)) this).trans (IntWalk.i64_in _ (by omega))
  · simp only [Go.bits, IntKind.bits]
    have e : BitVec.ofInt 64 (-1) = BitVec.allOnes 64 := by decide
    have : (BitVec.ofInt 64 (k : Int) ^^^ BitVec.ofInt 64 (-1)).toNat = 18446744073709551615 - k := by
      rw [e, BitVec.xor_allOnes, BitVec.toNat_not]
      simp
      omega
    refine (congrArg (fun x : Nat => IntKind.i64.wrap (x : Int)) this).trans ?_
    rw [IntKind.wrap_i64]
    omega

theorem zag_num (m : Nat) (hm : m < 18446744073709551616) :
    Go.bits .xor .i64 ((m : Int) / 2) (wrap64 (-wrap64 (Go.bits .and .u64 (m : Int) 1))) = zagZ m := by
  have e0 : Go.bits .and .u64 (m : Int) 1 = ((m % 2 : Nat) : Int) := by
    have h := u64_and_nat m 1 hm (by omega)
    rw [nat_mask1] at h
    exact h
  have e1 : ((m : Int) / 2) = ((m / 2 : Nat) : Int) := by omega
  obtain ⟨x0, x1⟩ := i64_xor (m / 2) (by omega)
  rw [e0, e1]
  unfold zagZ
  by_cases h : m % 2 = 1
  · have : wrap64 (-wrap64 ((m % 2 : Nat) : Int)) = -1 := by rw [h]; simp [wrap64]
    rw [this, x1, if_pos h]
  · have h0 : m % 2 = 0 := by omega
    have : wrap64 (-wrap64 ((m % 2 : Nat) : Int)) = 0 := by rw [h0]; simp [wrap64]
    rw [this, x0, if_neg h]

theorem rzig_num (n : Int) (hn : -9223372036854775808 ≤ n ∧ n ≤ 9223372036854775807) (h : n < 0) :
    IntKind.u64.wrap (IntKind.u64.wrap (Go.bits .xor .u64 IntKind.u64.max (IntKind.u64.wrap n) * 2) + 1) = (zigN n : Int) := by
  have e1 : IntKind.u64.wrap n = (((18446744073709551616 + n).toNat : Nat) : Int) := by rw [IntKind.wrap_u64]; omega
  have e2 : IntKind.u64.max = ((18446744073709551615 : Nat) : Int) := by decide
  rw [e1, e2, u64_xor_nat _ _ (by omega) (by omega), Nat.xor_comm, xor_ones _ (by omega)]
  unfold zigN
  rw [if_pos h, IntKind.wrap_u64, IntKind.wrap_u64]
  omega

theorem rzag_num (m : Nat) (hm : m < 18446744073709551616) (h : m % 2 = 1) : wrap64 (Go.bits .xor .u64 IntKind.u64.max ((m : Int) / 2)) = zagZ m := by
  have e1 : ((m : Int) / 2) = ((m / 2 : Nat) : Int) := by omega
  have e2 : IntKind.u64.max = ((18446744073709551615 : Nat) : Int) := by decide
  rw [e1, e2, u64_xor_nat _ _ (by omega) (by omega), Nat.xor_comm, xor_ones _ (by omega)]
  unfold zagZ wrap64
  rw [if_pos h]
  omega

theorem ret_int {k : IntKind} {a b : Int} (h : a = b) : Ending.returned (.int k a) = .returned (.int k b) := by rw [h]

set_option maxHeartbeats 400000 in
theorem zig_any (n : Int) (hn : -9223372036854775808 ≤ n ∧ n ≤ 9223372036854775807) (w : World) :
    Calls Tryd.prog 55 #[.int .i64 n] w fun e w' => e = .returned (.int .u64 (zigN n : Nat)) ∧ w = w' := by
  go_enter Tryd.func55, Tryd.ntmps55
  go_wp2
  go_ret
  exact ⟨ret_int (zig_num n hn), rfl⟩

set_option maxHeartbeats 400000 in
theorem zag_any (m : Nat) (hn : m < 18446744073709551616) (w : World) :
    Calls Tryd.prog 88 #[.int .u64 m] w fun e w' => e = .returned (.int .i64 (zagZ m)) ∧ w = w' := by
  go_enter Tryd.func88, Tryd.ntmps88
  go_wp2
  go_ret
  exact ⟨ret_int (zag_num m hn), rfl⟩

set_option maxHeartbeats 400000 in
theorem rzig_any (n : Int) (hn : -9223372036854775808 ≤ n ∧ n ≤ 9223372036854775807) (w : World) :
    Calls Tryd.prog 61 #[.int .i64 n] w fun e w' => e = .returned (.int .u64 (zigN n : Nat)) ∧ w = w' := by
  go_enter Tryd.func61, Tryd.ntmps61
  by_cases hneg : n < 0
  · go_wp2
    go_ret
    exact ⟨ret_int (rzig_num n hn hneg), rfl⟩
  · go_wp2
    go_ret
    exact ⟨ret_int (by unfold zigN; rw [if_neg (by omega)]; omega), rfl⟩


end Go.Proofs.YthcgalpabjjkoaaDoor
