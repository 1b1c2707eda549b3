/- Texts of ours, behind one another: LzPlain, LzFlush, LzClos, LzMap, LzPack, LzRefPlain, LzChains, LzPlace, LzRPack, LzDec, LzUnpack. No conditions but those that each states. -/
import Derived.Test.YthcgalpabjjkoaaDoorG1
import Derived.Test.YthcgalpabjjkoaaDoorProg
import Derived.BigRegion
import Derived.Deep.LoopGhost
import Derived.Deep.DeepCutAuto
import Derived.Deep.QuietTactic
import Derived.BigQuiet
import Derived.Lib.Hide
import Derived.Deep.Light
import Derived.Deep.RegionHeld3
import Derived.StillTailTactics
import Derived.Maps.OwnSet
import Derived.Maps.OwnOps
import Derived.WideKeyArr
import Derived.WideKeyPair
import Derived.Laws.Cover3
import Derived.OwnWalk
import Derived.Laws.BitsAllLaws
/- XLzPlain: What lz.Pack gives, in plain words: the latest place with the same four bytes, pieces of bytes that stand for themselves, pieces that were there. -/
namespace Go.Proofs.YthcgalpabjjkoaaDoor
set_option linter.unusedVariables false

/-- The four bytes at a place. -/
def at4 (b : List UInt8) (i : Nat) : List UInt8 := (b.drop i).take 4
/-- The latest of the places below s with the four bytes of place j. -/
def lastB (b : List UInt8) (j : Nat) : Nat → Option Nat
  | 0 => none
  | s + 1 => if at4 b s = at4 b j then some s else lastB b j s
/-- How many further bytes are alike, of at most f. -/
def ext (b : List UInt8) (p a : Nat) : Nat → Nat → Nat
  | _, 0 => 0
  | m, f + 1 => if a + m < b.length ∧ b[p + m]? = b[a + m]? then 1 + ext b p a (m + 1) f else 0
/-- Bytes that stand for themselves. -/
def flush (l : List UInt8) : List UInt8 :=
  if h : l = [] then [] else UInt8.ofNat (min 127 l.length) :: (l.take 127 ++ flush (l.drop 127))
termination_by l.length
decreasing_by have := List.length_pos_iff.2 h; simp; omega

def near (b : List UInt8) (a : Nat) : Option Nat := (lastB b a a).bind fun p => if a - p ≤ 65535 then some p else none

def piece (r far : Nat) : List UInt8 := [UInt8.ofNat (128 + r), UInt8.ofNat (far / 256), UInt8.ofNat far]

/-- What is still to be written, where place a is reached, and the bytes from 'begin' on stand for themselves. -/
def pk (b : List UInt8) (a begin : Nat) : List UInt8 :=
  if a + 4 ≤ b.length then
    match near b a with
    | none => pk b (a + 1) begin
    | some p => flush ((b.drop begin).take (a - begin)) ++ (piece (ext b p a 4 127) (a - p) ++ pk b (a + (4 + ext b p a 4 127)) (a + (4 + ext b p a 4 127)))
  else flush (b.drop begin)
termination_by b.length - a
decreasing_by all_goals omega

theorem lastB_lt (b : List UInt8) (j : Nat) : ∀ (s p : Nat), lastB b j s = some p → p < s ∧ at4 b p = at4 b j
  | 0, p, h => by simp [lastB] at h
  | s + 1, p, h => by
    unfold lastB at h
    split at h
    · simp at h; subst h; exact ⟨by omega, by assumption⟩
    · have := lastB_lt b j s p h; exact ⟨by omega, this.2⟩

/-- None of the later places has them. -/
theorem lastB_none_above (b : List UInt8) (j : Nat) : ∀ (s p : Nat), lastB b j s = some p → ∀ q, p < q → q < s → at4 b q ≠ at4 b j
  | 0, p, h => by simp [lastB] at h
  | s + 1, p, h => by
    intro q h1 h2
    unfold lastB at h
    split at h
    · simp at h; omega
    · by_cases hq : q = s
      · subst hq; assumption
      · exact lastB_none_above b j s p h q h1 (by omega)
theorem lastB_none (b : List UInt8) (j : Nat) : ∀ (s : Nat), lastB b j s = none → ∀ q, q < s → at4 b q ≠ at4 b j
  | 0, _ => by intro q h; omega
  | s + 1, h => by
    intro q h2
    unfold lastB at h
    split at h
    · cases h
    · by_cases hq : q = s
      · subst hq; assumption
      · exact lastB_none b j s h q (by omega)
theorem lastB_is (b : List UInt8) (j s p : Nat) (hp : p < s) (he : at4 b p = at4 b j) (hn : ∀ q, p < q → q < s → at4 b q ≠ at4 b j) : lastB b j s = some p := by
  cases h : lastB b j s with
  | none => exact absurd he (lastB_none b j s h p hp)
  | some q =>
    have h1 := lastB_lt b j s q h
    have h2 := lastB_none_above b j s q h
    by_cases h3 : p < q
    · exact absurd h1.2 (hn q h3 h1.1)
    · by_cases h4 : q < p
      · exact absurd he (h2 p h4 hp)
      · rw [show q = p by omega]
theorem lastB_isNone (b : List UInt8) (j s : Nat) (hn : ∀ q, q < s → at4 b q ≠ at4 b j) : lastB b j s = none := by
  cases h : lastB b j s with
  | none => rfl
  | some q => have h1 := lastB_lt b j s q h; exact absurd h1.2 (hn q h1.1)

theorem flush_nil : flush [] = [] := by rw [flush]; simp
theorem flush_ne {l : List UInt8} (h : l ≠ []) : flush l = UInt8.ofNat (min 127 l.length) :: (l.take 127 ++ flush (l.drop 127)) := by
  rw [flush, dif_neg h]

theorem flush_step (l : List UInt8) (n : Nat) (hn : n = min 127 l.length) (h0 : 0 < l.length) : flush l = (UInt8.ofNat n :: l.take n) ++ flush (l.drop n) := by
  subst hn
  have h : l ≠ [] := List.length_pos_iff.1 h0
  rw [flush_ne h]
  by_cases h1 : l.length ≤ 127
  · rw [show min 127 l.length = l.length by omega, List.take_of_length_le h1, List.drop_of_length_le h1, List.take_length, List.drop_length]; rfl
  · rw [show min 127 l.length = 127 by omega]; rfl

theorem flush_len (l : List UInt8) : (flush l).length ≤ 2 * l.length := by
  induction hn : l.length using Nat.strongRecOn generalizing l with
  | _ n ih =>
    by_cases h : l = []
    · subst h; simp [flush_nil]
    · rw [flush_ne h]
      have hl := List.length_pos_iff.2 h
      have := ih (l.drop 127).length (by simp; omega) (l.drop 127) rfl
      simp at this ⊢
      omega

theorem ext_le (b : List UInt8) (p a : Nat) : ∀ (f m : Nat), ext b p a m f ≤ f
  | 0, m => by simp [ext]
  | f + 1, m => by
    unfold ext
    split
    · have := ext_le b p a f (m + 1); omega
    · omega

theorem ext_in (b : List UInt8) (p a : Nat) : ∀ (f m : Nat), a + m ≤ b.length → a + m + ext b p a m f ≤ b.length
  | 0, m, h => by simp [ext]; exact h
  | f + 1, m, h => by
    unfold ext
    split
    · have := ext_in b p a f (m + 1) (by omega); omega
    · omega

theorem pk_len (b : List UInt8) (a begin : Nat) (h1 : begin ≤ a) (h2 : a ≤ b.length) : (pk b a begin).length ≤ 2 * (b.length - begin) := by
  induction hn : b.length - a using Nat.strongRecOn generalizing a begin with
  | _ n ih =>
    rw [pk]
    by_cases h : a + 4 ≤ b.length
    · rw [if_pos h]
      cases hp : near b a with
      | none => exact ih (b.length - (a + 1)) (by omega) (a + 1) begin (by omega) (by omega) rfl
      | some p =>
        have h3 := ext_in b p a 127 4 h
        have h4 := ih (b.length - (a + (4 + ext b p a 4 127))) (by omega) (a + (4 + ext b p a 4 127)) (a + (4 + ext b p a 4 127)) (by omega) (by omega) rfl
        have h5 := flush_len ((b.drop begin).take (a - begin))
        simp only [List.length_append, piece, List.length_cons, List.length_nil]
        simp at h5
        omega
    · rw [if_neg h]
      have h5 := flush_len (b.drop begin)
      simp at h5
      omega

theorem near_lt {b : List UInt8} {a p : Nat} (h : near b a = some p) : p < a ∧ a - p ≤ 65535 := by
  unfold near at h
  cases hl : lastB b a a with
  | none => rw [hl] at h; simp at h
  | some q =>
    rw [hl] at h
    simp at h
    have := lastB_lt b a a q hl
    obtain ⟨h1, rfl⟩ := h
    exact ⟨this.1, by omega⟩

end Go.Proofs.YthcgalpabjjkoaaDoor

/- XLzFlush: The contracts of the two flushes: bytes that stand for themselves, in pieces. -/
namespace Go.Proofs.YthcgalpabjjkoaaDoor
open Go.RowKit
set_option linter.unusedVariables false

/-- What a call leaves that has added to a row of bytes. -/
def Added (w w' : World) (base : Nat) (v v' : Value) (bs : List UInt8) : Prop := Grew w w' base 5 1 v v' bs.length (bs.map bV)

theorem RdV.pre {w : World} {size n cap : Nat} {ao : Option Addr} {xs : List Value} (h : RdV w size (.slice ao n cap) n xs) (m : Nat) (hm : m ≤ n) : RdV w size (.slice ao m cap) m (xs.take (m * size)) := by
  obtain ⟨hlen, ao', cap', he, hn, hc, hz, hcell⟩ := h
  simp only [Value.slice.injEq, true_and] at he
  obtain ⟨rfl, rfl⟩ := he
  have e0 : m * size ≤ n * size := Nat.mul_le_mul_right _ hm
  refine ⟨by rw [List.length_take, hlen]; omega, _, _, rfl, by omega, hc, hz, fun a ha j u hu => ?_⟩
  have hj : j < m * size := by have := (List.getElem?_eq_some_iff.1 hu).1; rw [List.length_take] at this; omega
  rw [List.getElem?_take, if_pos hj] at hu
  exact hcell a ha j u hu

theorem Rd.pre {w : World} {cap : Nat} {ao : Option Addr} {xs : List UInt8} (h : Rd w (.slice ao xs.length cap) xs) (m : Nat) (hm : m ≤ xs.length) : Rd w (.slice ao m cap) (xs.take m) := by
  have := RdV.pre h.v m hm
  unfold Rd
  rw [List.length_take, Nat.min_eq_left hm, List.map_take]
  rw [Nat.mul_one] at this
  exact this

theorem pre_v {w : World} {cap : Nat} {ao : Option Addr} {xs : List UInt8} (h : Rd w (.slice ao xs.length cap) xs) (m : Nat) (hm : m ≤ xs.length) : RdV w 1 (.slice ao m cap) m ((xs.take m).map bV) := by
  have := RdV.pre h.v m hm
  rw [Nat.mul_one, ← List.map_take] at this
  exact this

theorem Rd.blk {w : World} {v : Value} {xs : List UInt8} (h : Rd w v xs) (h0 : 0 < xs.length) (k : Nat) (hk : v.ownBlock = some k) : k < w.heap.size := by
  obtain ⟨b, off, cap, rfl, _, _, hb, _⟩ := RdV.some h.v h0 (by decide)
  simp [Value.ownBlock] at hk
  omega

set_option maxHeartbeats 1000000 in
theorem rflush_any (v0 v1 : Value) (os ps : List UInt8) (base : Nat) (w : World) (hb : base ≤ w.heap.size) (hown : Own w base v0 os) (hr : Rd w v1 ps) (hd : ∀ k, v1.ownBlock = some k → v0.ownBlock ≠ some k)
    (hs : os.length + 2 * ps.length ≤ 140737488351232) :
    Calls Tryd.prog 86 #[v0, v1] w fun e w' => ∃ ao cap, e = .returned (.slice ao (os ++ flush ps).length cap) ∧ Added w w' base v0 (.slice ao (os ++ flush ps).length cap) (os ++ flush ps) := by
  obtain ⟨ao0, cap0, rfl⟩ := hown.shape
  obtain ⟨ao1, cap1, rfl, hn1, hm1⟩ := RdV.shape hr
  unfold maxLen at hm1
  go_enter Tryd.func86, Tryd.ntmps86
  go_wp2_with fail
  go_loopg [0, 1] ps.length (fun m s0 s1 wr => ∃ cs rs : List UInt8, ∃ ao cap ap cp, rs.length = m ∧ s0 = .slice ao cs.length cap ∧ s1 = .slice ap rs.length cp ∧ cs ++ flush rs = os ++ flush ps ∧ cs.length + 2 * rs.length ≤ os.length + 2 * ps.length ∧
    Hid (Added w wr base (.slice ao0 os.length cap0) (.slice ao cs.length cap) cs) ∧ Hid (Rd wr (.slice ap rs.length cp) rs) ∧ rs.length ≤ ps.length ∧ (∀ k, (Value.slice ap rs.length cp).ownBlock = some k → (Value.slice ao1 ps.length cap1).ownBlock = some k))
  case atStart => exact ⟨os, ps, ao0, cap0, ao1, cap1, rfl, rfl, rfl, rfl, Nat.le_refl _, Lib.hid (Grew.refl hown), Lib.hid hr, Nat.le_refl _, fun k h => h⟩
  case round =>
    obtain ⟨cs, rs, ao, cap, ap, cp, hm, rfl, rfl, heq, hle, hadd, hrd, hps, hblk⟩ := hrel
    by_cases h0 : gk = 0
    · subst h0
      obtain rfl : rs = [] := List.eq_nil_of_length_eq_zero hm
      rw [flush_nil, List.append_nil] at heq
      subst heq
      clear hm
      go_wp2_with fail
      go_ret
      exact ⟨ao, cap, rfl, hadd.out⟩
    · obtain ⟨n, hn⟩ : ∃ n, n = min 127 rs.length := ⟨_, rfl⟩
      have HFL := Lib.hid (flush_step rs n hn (by omega))
      have h1 : 0 < rs.length := by omega
      have hnl : n ≤ rs.length := by omega
      have hn127 : n ≤ 127 := by omega
      have HHN := Lib.hid hn
      clear hn
      go_upto_region 3 with fail
      rw [show (if (gk : Int) < 127 then (gk : Int) else 127) = (n : Int) by have := HHN.out; split <;> omega]
      have hod : Own wr.drew base (.slice ao cs.length cap) cs := hadd.out.owns
      have hcp : n ≤ cp := by obtain ⟨_, _, h, h2, _⟩ := RdV.shape hrd.out.v; simp at h; omega
      have hcpI : (n : Int) ≤ (cp : Int) := by omega
      have h63 : cs.length + 1 ≤ maxLen := by unfold maxLen; omega
      have hby : (cs.length + 1) * 1 ≤ 140737488355328 := by omega
      have hba : ∀ o, base ≤ (wr.drew.alloc o).heap.size := fun o => by have := hadd.out.grown.size; have e : wr.drew.heap.size = wr.heap.size := rfl; simp; omega
      have hcv : IntKind.u8.wrap (n : Int) = (n : Int) := by rw [IntKind.wrap_u8]; omega
      have hn1' : 1 ≤ n := by have := HHN.out; omega
      have hbl : ∀ k, (Value.slice ap rs.length cp).ownBlock = some k → k < w.heap.size := fun k hk => Rd.blk hr (by omega) k (hblk k hk)
      have hne : ∀ k, (Value.slice ap rs.length cp).ownBlock = some k → (Value.slice ao cs.length cap).ownBlock ≠ some k := fun k hk he => by
        rcases hadd.out.row k he with h | h
        · exact hd k (hblk k hk) h
        · have := hbl k hk; omega
      have HR := Lib.hid (show Rd wr.drew (.slice ap rs.length cp) rs from hrd.out.v.drew)
      have h63b : cs.length + 1 + n ≤ maxLen := by unfold maxLen; omega
      have hbyb : (cs.length + 1 + n) * 1 ≤ 140737488355328 := by omega
      have HH := Lib.hid heq
      have HE := Lib.hid (⟨hm, hnl, hle, hps⟩ : rs.length = gk ∧ n ≤ rs.length ∧ cs.length + 2 * rs.length ≤ os.length + 2 * ps.length ∧ rs.length ≤ ps.length)
      have hbs : base ≤ wr.drew.heap.size := Nat.le_trans hb hadd.out.grown.size
      have hws : w.heap.size ≤ wr.drew.heap.size := hadd.out.grown.size
      clear h0 hm hnl heq hle hn1 hm1 hps
      go_region_held3 (fun w' => True) (trivial)
          (first
            | ((refine step_append_rd (wr.drew.alloc _) rfl (.tmp 12) (.tmp 15) 33 rfl base 5 (.int .u8 0) 1 1 Tryd.underlying33 infoU8 rfl (by decide) (.slice ao cs.length cap) cs.length (cs.map bV) rfl (hod.alloc _) (.slice (some ⟨wr.drew.heap.size, 0, none⟩) 1 1) 1 [.int .u8 (n : Int)] rfl (RdV.one _ _ _) (one_one _ rfl) h63 hby (hba _) ?_; intro ao6 cap6 w6 hg6; have HG := Lib.hid hg6.ofAlloc; have HR6 := Lib.hid (show Rd w6 (.slice ap rs.length cp) rs from RdV.chg HR.out.v HG.out.chg hne); have hb6 := Nat.le_trans hbs HG.out.grown.size; clear hg6))
            | ((refine step_append_rd w6 rfl (.tmp 16) (.tmp 19) 33 rfl base 5 (.int .u8 0) 1 1 Tryd.underlying33 infoU8 rfl (by decide) (.slice ao6 (cs.length + 1) cap6) (cs.length + 1) (cs.map bV ++ [.int .u8 (n : Int)]) rfl HG.out.owns (.slice ap n cp) n ((rs.take n).map bV) rfl (pre_v HR6.out n HE.out.2.1) (bV_one _) h63b hbyb hb6 ?_; intro ao7 cap7 w7 hg7; have HG7 := Lib.hid hg7; have HR7 := Lib.hid (show Rd w7 (.slice ap rs.length cp) rs from RdV.chg HR6.out.v HG7.out.chg (fun k hk he => by
                rcases HG.out.row k he with h | h
                · exact hne k hk h
                · have := hbl k hk; omega)); clear hg7)))
      have hcp2 : n ≤ rs.length := HE.out.2.1
      have hcells := Lib.hid (show (((rs.map bV).drop n).take (rs.length - n)) = (rs.drop n).map bV by rw [List.take_of_length_le (by simp), List.map_drop])
      all_goals go_wp2_with (with_reducible refine wpList_slice_rd _ rfl (.tmp 21) (some (.tmp 22)) none 33 rfl 5 1 (.int .u8 0) 1 Tryd.underlying33 infoU8 _ _ _ _ rfl HR7.out.v n _ ?hb hcp2 (Nat.le_refl _) ?hk)
      case hb => exact bounds_lo _ _ _ _ hcp2
      case hk =>
        intro ao5 cap5 hr5 hb5
        rw [hcells.out] at hr5
        have HB5 := Lib.hid hb5
        have HN := Lib.hid (show rs.length - n = (rs.drop n).length by simp)
        rw [HN.out] at hr5
        have HR5 := Lib.hid hr5
        clear hr5 hb5
        go_wp2_with fail
        go_roundg (gk - n)
        case measure => go_light; have := HE.out.1; omega
        case rel =>
          go_light
          have hnn : (UInt8.ofNat n).toNat = n := by simp; omega
          have e1 : List.map bV cs ++ [Value.int IntKind.u8 ↑n] ++ List.map bV (List.take n rs) = (cs ++ (UInt8.ofNat n :: rs.take n)).map bV := by
            simp [bV]; omega
          have e2 : cs.length + 1 + n = (cs ++ (UInt8.ofNat n :: rs.take n)).length := by simp; omega
          have hg := HG7.out
          rw [e1, e2] at hg
          refine ⟨cs ++ (UInt8.ofNat n :: rs.take n), rs.drop n, ao7, cap7, ao5, cap5, by simp; have := HE.out.1; omega, by rw [e2], by rw [HN.out], ?_, ?_, Lib.hid (hadd.out.trans (Grew.ofDrew (HG.out.trans hg))), HR5, by simp; have := HE.out.2.2.2; omega, ?_⟩
          · rw [List.append_assoc, ← HFL.out]; exact HH.out
          · have := HE.out.2.2.1; have := HE.out.2.1; simp; omega
          · intro k hk
            rw [← HN.out] at hk
            exact hblk k (HB5.out k hk)
end Go.Proofs.YthcgalpabjjkoaaDoor

/- XLzClos: The contract of lz.Pack's closure: bytes that stand for themselves, in pieces, up to a place. -/
namespace Go.Proofs.YthcgalpabjjkoaaDoor
open Go.RowKit
set_option linter.unusedVariables false

/-- The captured cells: of the first byte that stands for itself, of what is written, of the bytes. -/
structure LzC (w : World) (pb po px base i : Nat) (sv bv : Value) (bs : List UInt8) : Prop where
  c0 : w.cell? ⟨pb, 0, none⟩ = some (.int .i64 (i : Nat))
  f0 : w.frozen? ⟨pb, 0, none⟩ = false
  c1 : w.cell? ⟨po, 0, none⟩ = some sv
  f1 : w.frozen? ⟨po, 0, none⟩ = false
  c2 : w.cell? ⟨px, 0, none⟩ = some bv
  rd : Rd w bv bs
  hb : base ≤ w.heap.size
  l0 : pb < base
  l1 : po < base
  l2 : px < base
  n0 : pb ≠ po
  n1 : px ≠ pb
  n2 : px ≠ po
  bb : 0 < bs.length → ∀ k, bv.ownBlock = some k → k < base ∧ k ≠ pb ∧ k ≠ po

theorem Rd.chg0 {S : Nat → Prop} {w w' : World} {v : Value} {bs : List UInt8} (h : Rd w v bs) (hc : Chg S w w') (hs : 0 < bs.length → ∀ k, v.ownBlock = some k → ¬ S k) : Rd w' v bs := by
  by_cases h0 : 0 < bs.length
  · exact RdV.chg h.v hc (hs h0)
  · obtain rfl : bs = [] := List.eq_nil_of_length_eq_zero (by omega)
    obtain ⟨hl, ao, cap, rfl, hn, hc', hz, _⟩ := h
    exact ⟨hl, ao, cap, rfl, hn, hc', hz, fun a ha j u hu => by simp at hu⟩

theorem LzC.chg {S : Nat → Prop} {w w' : World} {pb po px base i : Nat} {sv bv : Value} {bs : List UInt8} (h : LzC w pb po px base i sv bv bs) (hc : Chg S w w') (hS : ∀ k, k < base → ¬ S k) : LzC w' pb po px base i sv bv bs := by
  obtain ⟨c0, f0, c1, f1, c2, rd, hb, l0, l1, l2, n0, n1, n2, bb⟩ := h
  exact ⟨(hc.cell (p := ⟨pb, 0, none⟩) (Nat.lt_of_lt_of_le l0 hb) (hS _ l0)).trans c0, (hc.frozen (p := ⟨pb, 0, none⟩) (Nat.lt_of_lt_of_le l0 hb) (hS _ l0)).trans f0,
    (hc.cell (p := ⟨po, 0, none⟩) (Nat.lt_of_lt_of_le l1 hb) (hS _ l1)).trans c1, (hc.frozen (p := ⟨po, 0, none⟩) (Nat.lt_of_lt_of_le l1 hb) (hS _ l1)).trans f1,
    (hc.cell (p := ⟨px, 0, none⟩) (Nat.lt_of_lt_of_le l2 hb) (hS _ l2)).trans c2, rd.chg0 hc (fun h0 k hk => hS k (bb h0 k hk).1), Nat.le_trans hb hc.size, l0, l1, l2, n0, n1, n2, bb⟩

theorem Rd.setCell {w : World} {v : Value} {bs : List UInt8} (h : Rd w v bs) (p : Addr) (u : Value) (hp : 0 < bs.length → ∀ k, v.ownBlock = some k → k ≠ p.block) : Rd (w.setCell p u) v bs :=
  h.chg0 ((Chg.refl (fun k => k = p.block) w).setCell (fun _ => rfl) u) hp

theorem LzC.setOut {w : World} {pb po px base i : Nat} {sv bv : Value} {bs : List UInt8} (h : LzC w pb po px base i sv bv bs) (u : Value) : LzC (w.setCell ⟨po, 0, none⟩ u) pb po px base i u bv bs := by
  obtain ⟨c0, f0, c1, f1, c2, rd, hb, l0, l1, l2, n0, n1, n2, bb⟩ := h
  exact ⟨(World.cell?_setCell_far _ _ _ _ (by simpa using n0.symm)).trans c0, by simp [go_sem, f0], by simp [go_sem, c1], by simp [go_sem, f1], (World.cell?_setCell_far _ _ _ _ (by simpa using n2.symm)).trans c2,
    rd.setCell _ _ (fun h0 k hk => (bb h0 k hk).2.2), by simpa [World.setCell] using hb, l0, l1, l2, n0, n1, n2, bb⟩
theorem LzC.setBeg {w : World} {pb po px base i : Nat} {sv bv : Value} {bs : List UInt8} (h : LzC w pb po px base i sv bv bs) (j : Nat) : LzC (w.setCell ⟨pb, 0, none⟩ (.int .i64 (j : Nat))) pb po px base j sv bv bs := by
  obtain ⟨c0, f0, c1, f1, c2, rd, hb, l0, l1, l2, n0, n1, n2, bb⟩ := h
  exact ⟨by simp [go_sem, c0], by simp [go_sem, f0], (World.cell?_setCell_far _ _ _ _ (by simpa using n0)).trans c1, by simp [go_sem, f1], (World.cell?_setCell_far _ _ _ _ (by simpa using n1.symm)).trans c2,
    rd.setCell _ _ (fun h0 k hk => (bb h0 k hk).2.1), by simpa [World.setCell] using hb, l0, l1, l2, n0, n1, n2, bb⟩

theorem Own.setCell {w : World} {base : Nat} {v : Value} {bs : List UInt8} (h : Own w base v bs) (p : Addr) (hp : p.block < base) (u : Value) : Own (w.setCell p u) base v bs := ownsRow_setCell_below h hp u

def LzS (pb po base : Nat) (k : Nat) : Prop := k = pb ∨ k = po ∨ base ≤ k

/-- The bytes from place i to place e. -/
def sub (bs : List UInt8) (i e : Nat) : List UInt8 := (bs.drop i).take (e - i)

theorem sub_len (bs : List UInt8) (i e : Nat) (h : e ≤ bs.length) : (sub bs i e).length = e - i := by simp [sub]; omega
theorem sub_self (bs : List UInt8) (i : Nat) : sub bs i i = [] := by simp [sub]
theorem sub_take (bs : List UInt8) (i e n : Nat) (h : i + n ≤ e) : (sub bs i e).take n = sub bs i (i + n) := by
  unfold sub; rw [List.take_take]; congr 1; omega
theorem sub_drop (bs : List UInt8) (i e n : Nat) : (sub bs i e).drop n = sub bs (i + n) e := by
  unfold sub; rw [List.drop_take, List.drop_drop]; congr 1; omega

theorem sub_rd {w : World} {b off cap : Nat} {bs : List UInt8} (h : Rd w (.slice (some ⟨b, off, none⟩) bs.length cap) bs) (i e : Nat) (hi : i < e) (he : e ≤ bs.length) :
    RdV w 1 (.slice (some ⟨b, off + i, none⟩) (e - i) (cap - i)) (e - i) ((sub bs i e).map bV) := by
  have h1 := RdV.cut h.v i e (by omega) he
  obtain ⟨_, c, hc, hn, _⟩ := RdV.shape h.v
  simp only [Value.slice.injEq, true_and] at hc
  obtain ⟨_, rfl⟩ := hc
  rw [if_neg (by omega)] at h1
  simp only [Nat.mul_one, Option.map_some, Addr.add_lit] at h1
  unfold sub
  rw [List.map_take, List.map_drop]
  exact h1

theorem subn_rd {w : World} {b off cap : Nat} {bs : List UInt8} (h : Rd w (.slice (some ⟨b, off, none⟩) bs.length cap) bs) (i n : Nat) (hn : 1 ≤ n) (he : i + n ≤ bs.length) :
    RdV w 1 (.slice (some ⟨b, off + i, none⟩) n (cap - i)) n ((sub bs i (i + n)).map bV) := by
  have := sub_rd h i (i + n) (by omega) he
  rwa [Nat.add_sub_cancel_left] at this

set_option maxHeartbeats 1000000 in
theorem plain_any (pb po px base i e : Nat) (sv bv : Value) (os bs : List UInt8) (w : World) (hi : i ≤ e) (he : e ≤ bs.length) (hs : os.length + 2 * bs.length ≤ 140737488351232) (hC : LzC w pb po px base i sv bv bs) (hown : Own w base sv os) :
    Calls Tryd.prog 94 #[.int .i64 (e : Nat), .pointer (some ⟨pb, 0, none⟩), .pointer (some ⟨po, 0, none⟩), .pointer (some ⟨px, 0, none⟩)] w fun en w' => en = .returned (.tuple #[]) ∧
      ∃ ao cap, LzC w' pb po px base e (.slice ao (os ++ flush (sub bs i e)).length cap) bv bs ∧ Own w' base (.slice ao (os ++ flush (sub bs i e)).length cap) (os ++ flush (sub bs i e)) ∧ Chg (LzS pb po base) w w' := by
  obtain ⟨ao0, cap0, rfl⟩ := hown.shape
  go_enter Tryd.func94, Tryd.ntmps94
  go_wp2_with fail
  go_loopg [5] (e - i) (fun m s5 wr => ∃ (j : Nat) (cs : List UInt8) (ao : Option Addr) (cap : Nat), i ≤ j ∧ j ≤ e ∧ e - j = m ∧ Hid (LzC wr pb po px base j (.slice ao cs.length cap) bv bs) ∧ Hid (Own wr base (.slice ao cs.length cap) cs) ∧ Hid (Chg (LzS pb po base) w wr) ∧
    Hid (cs ++ flush (sub bs j e) = os ++ flush (sub bs i e)) ∧ cs.length + 2 * (e - j) ≤ os.length + 2 * (e - i))
  case atStart => exact ⟨i, os, ao0, cap0, Nat.le_refl _, hi, rfl, Lib.hid hC, Lib.hid hown, Lib.hid (Chg.refl _ _), Lib.hid rfl, Nat.le_refl _⟩
  case round =>
    obtain ⟨j, cs, ao, cap, hij, hje, hm, hc, ho, hch, heq, hle⟩ := hrel
    obtain ⟨c0, f0, c1, f1, c2, hrd, hbs, l0, l1, l2, n0, n1, n2, bb⟩ := hc.out
    by_cases h0 : gk = 0
    · obtain rfl : j = e := by omega
      have HE := heq.out
      rw [sub_self, flush_nil, List.append_nil] at HE
      subst HE
      clear hC hown hm hij hje
      go_wp2_with fail
      go_end0
      exact ⟨rfl, ao, cap, hc.out, ho.out, hch.out⟩
    · have hlt : j < e := by omega
      obtain ⟨b, off, bcap, hbv, hbn, hbm, _, _⟩ := RdV.some hrd.v (by omega) (by decide)
      subst hbv
      unfold maxLen at hbm
      obtain ⟨n, hn⟩ : ∃ n, n = min 127 (e - j) := ⟨_, rfl⟩
      have HHN := Lib.hid hn
      have HFL := Lib.hid (flush_step (sub bs j e) n (by rw [sub_len _ _ _ he]; exact hn) (by rw [sub_len _ _ _ he]; omega))
      have hn127 : n ≤ 127 := by omega
      have hn1 : 1 ≤ n := by omega
      have hne : j + n ≤ e := by omega
      have hw1 : IntKind.i64.wrap ((e : Int) - (j : Int)) = (e : Int) - (j : Int) := IntWalk.i64_in _ (by omega)
      clear hn
      go_upto_region 2 with fail
      rw [show (if (e : Int) - (j : Int) < 127 then (e : Int) - (j : Int) else 127) = (n : Int) by have := HHN.out; split <;> omega]
      have HC := Lib.hid (show LzC wr.drew pb po px base j (.slice ao cs.length cap) (.slice (some ⟨b, off, none⟩) bs.length bcap) bs from hc.out.chg (Chg.refl (fun _ => False) wr).drew (fun _ _ h => h))
      have hod : Own wr.drew base (.slice ao cs.length cap) cs := ho.out
      have hcl : ¬ bcap = j := by omega
      have hjn : IntKind.i64.wrap ((j : Int) + (n : Int)) = (j : Int) + (n : Int) := IntWalk.i64_in _ (by omega)
      have hbI : (j : Int) + (n : Int) ≤ (bcap : Int) := by omega
      have i0 : (0 : Int) ≤ (j : Int) + (n : Int) := by omega
      have i1 : ((j : Int) + (n : Int)).toNat = j + n := by omega
      have i2 : j + n ≤ bcap := by omega
      have i3 : (j : Int) ≤ (j : Int) + (n : Int) := by omega
      have i4 : j ≤ bcap := by omega
      have h63 : cs.length + 1 ≤ maxLen := by unfold maxLen; omega
      have hby : (cs.length + 1) * 1 ≤ 140737488355328 := by omega
      have h63b : cs.length + 1 + n ≤ maxLen := by unfold maxLen; omega
      have hbyb : (cs.length + 1 + n) * 1 ≤ 140737488355328 := by omega
      have hba : ∀ o, base ≤ (wr.drew.alloc o).heap.size := fun o => by have e : wr.drew.heap.size = wr.heap.size := rfl; simp; omega
      have hcv : IntKind.u8.wrap (n : Int) = (n : Int) := by rw [IntKind.wrap_u8]; omega
      have q0 : pb < wr.drew.heap.size := Nat.lt_of_lt_of_le l0 hbs
      have q1 : po < wr.drew.heap.size := Nat.lt_of_lt_of_le l1 hbs
      have q2 : px < wr.drew.heap.size := Nat.lt_of_lt_of_le l2 hbs
      have a1 : ∀ o, (wr.alloc o).cell? ⟨po, 0, none⟩ = some (.slice ao cs.length cap) := fun o => (World.cell?_alloc_past _ _ _ q1).trans c1
      have a2 : ∀ o, (wr.alloc o).drew.cell? ⟨po, 0, none⟩ = some (.slice ao cs.length cap) := a1
      have HE := Lib.hid (⟨hij, hm, hle, he, hs, hi⟩ : i ≤ j ∧ e - j = gk ∧ cs.length + 2 * (e - j) ≤ os.length + 2 * (e - i) ∧ e ≤ bs.length ∧ os.length + 2 * bs.length ≤ 140737488351232 ∧ i ≤ e)
      clear hC hown hm hij hle hje h0 hs hrd bb hbm hw1 he hi
      refine wp_region_held_drew (S := fun w' => w'.cell? ⟨pb, 0, none⟩ = some (.int .i64 (j : Nat)) ∧ w'.cell? ⟨px, 0, none⟩ = some (.slice (some ⟨b, off, none⟩) bs.length bcap)) (by kernel_rfl) ⟨c0, c2⟩ (fun hHeld => ?_)
      refine wpAnyH_take (i := 1) (oi := { dst := some 14, op := Op.move (Operand.tmp 5), type := 3, pos := "lz.go:21", after := #[], guard := none }) (v := ?_) rfl (by kernel_rfl) (by kernel_rfl) (by kernel_rfl) (fun _ _ _ h => h) (Or.inl ⟨by rfl, ?_⟩) hHeld ?_
      rotate_left
      · intro w hSw; (try dsimp only at hSw); go_simp; try with_reducible rfl
      try simp only [Act.put, List.setIfInBounds_toArray, List.set_cons_zero, List.set_cons_succ]
      refine wpAnyH_take (i := 2) (oi := { dst := some 15, op := Op.convert 3 5 (Operand.tmp 14), type := 5, pos := "lz.go:21", after := #[{ on := 1, ground := Ground.data }], guard := none }) (v := ?_) rfl (by kernel_rfl) (by kernel_rfl) (by kernel_rfl) (fun _ _ _ h => h) (Or.inl ⟨by rfl, ?_⟩) hHeld ?_
      rotate_left
      · intro w hSw; (try dsimp only at hSw); go_simp; try with_reducible rfl
      try simp only [Act.put, List.setIfInBounds_toArray, List.set_cons_zero, List.set_cons_succ]
      refine wpAnyH_take (i := 5) (oi := { dst := some 18, op := Op.load 33 (Operand.tmp 3), type := 33, pos := "lz.go:21", after := #[], guard := none }) (v := ?_) rfl (by kernel_rfl) (by kernel_rfl) (by kernel_rfl) (fun _ _ _ h => h) (Or.inl ⟨by rfl, ?_⟩) hHeld ?_
      rotate_left
      · intro w hSw; (try dsimp only at hSw); go_simp; try with_reducible rfl
      try simp only [Act.put, List.setIfInBounds_toArray, List.set_cons_zero, List.set_cons_succ]
      refine wpAnyH_take (i := 6) (oi := { dst := some 19, op := Op.load 3 (Operand.tmp 1), type := 3, pos := "lz.go:21", after := #[], guard := none }) (v := ?_) rfl (by kernel_rfl) (by kernel_rfl) (by kernel_rfl) (fun _ _ _ h => h) (Or.inl ⟨by rfl, ?_⟩) hHeld ?_
      rotate_left
      · intro w hSw; (try dsimp only at hSw); go_simp; try with_reducible rfl
      try simp only [Act.put, List.setIfInBounds_toArray, List.set_cons_zero, List.set_cons_succ]
      refine wpAnyH_take (i := 7) (oi := { dst := some 20, op := Op.load 3 (Operand.tmp 1), type := 3, pos := "lz.go:21", after := #[], guard := none }) (v := ?_) rfl (by kernel_rfl) (by kernel_rfl) (by kernel_rfl) (fun _ _ _ h => h) (Or.inl ⟨by rfl, ?_⟩) hHeld ?_
      rotate_left
      · intro w hSw; (try dsimp only at hSw); go_simp; try with_reducible rfl
      try simp only [Act.put, List.setIfInBounds_toArray, List.set_cons_zero, List.set_cons_succ]
      refine wpAnyH_take (i := 8) (oi := { dst := some 21, op := Op.move (Operand.tmp 5), type := 3, pos := "lz.go:21", after := #[], guard := none }) (v := ?_) rfl (by kernel_rfl) (by kernel_rfl) (by kernel_rfl) (fun _ _ _ h => h) (Or.inl ⟨by rfl, ?_⟩) hHeld ?_
      rotate_left
      · intro w hSw; (try dsimp only at hSw); go_simp; try with_reducible rfl
      try simp only [Act.put, List.setIfInBounds_toArray, List.set_cons_zero, List.set_cons_succ]
      refine wpAnyH_take (i := 9) (oi := { dst := some 22, op := Op.binOp BinOp.add 3 (Operand.tmp 20) (Operand.tmp 21) 3, type := 3, pos := "lz.go:21", after := #[{ on := 7, ground := Ground.data }, { on := 8, ground := Ground.data }], guard := none }) (v := ?_) rfl (by kernel_rfl) (by kernel_rfl) (by kernel_rfl) (fun _ _ _ h => h) (Or.inl ⟨by rfl, ?_⟩) hHeld ?_
      rotate_left
      · intro w hSw; (try dsimp only at hSw); go_simp; try with_reducible rfl
      try simp only [Act.put, List.setIfInBounds_toArray, List.set_cons_zero, List.set_cons_succ]
      refine wpAnyH_take (i := 10) (oi := { dst := some 23, op := Op.slice 33 (Operand.tmp 18) (some (Operand.tmp 19)) (some (Operand.tmp 22)) none, type := 33, pos := "lz.go:21", after := #[{ on := 5, ground := Ground.data }, { on := 6, ground := Ground.data }, { on := 9, ground := Ground.data }], guard := none }) (v := ?_) rfl (by kernel_rfl) (by kernel_rfl) (by kernel_rfl) (fun _ _ _ h => h) (Or.inl ⟨by rfl, ?_⟩) hHeld ?_
      rotate_left
      · intro w hSw; (try dsimp only at hSw); go_simp; try with_reducible rfl
      try simp only [Act.put, List.setIfInBounds_toArray, List.set_cons_zero, List.set_cons_succ]
      have hd0 : wr.drew.cell? ⟨po, 0, none⟩ = some (.slice ao cs.length cap) := c1
      have hS1 : (wr.drew.alloc (.cells #[.int .u8 (n : Int)] 5)).cell? ⟨pb, 0, none⟩ = some (.int .i64 (j : Nat)) ∧ (wr.drew.alloc (.cells #[.int .u8 (n : Int)] 5)).cell? ⟨px, 0, none⟩ = some (.slice (some ⟨b, off, none⟩) bs.length bcap) := ⟨(World.cell?_alloc_past _ _ _ q0).trans c0, (World.cell?_alloc_past _ _ _ q2).trans c2⟩
      refine wpAnyH_ready (rs := [0, 3]) (by kernel_rfl) (by simp) (AllReadyH.cons (o := { dst := some 13, op := Op.load 33 (Operand.tmp 2), type := 33, pos := "lz.go:21", after := #[], guard := none }) rfl (fun K hK => ?_) (AllReadyH.cons (o := { dst := some 16, op := Op.buildSlice 33 1 #[(0, Operand.tmp 15)], type := 33, pos := "lz.go:21", after := #[{ on := 2, ground := Ground.data }], guard := none }) rfl (fun K hK => ?_) AllReadyH.nil))
      go_simp
      refine hK.out _ _ hHeld (fun hh => ?_)
      clear hK K hh
      try simp only [Act.put, List.setIfInBounds_toArray, List.set_cons_zero, List.set_cons_succ]
      refine wpAnyH_ready (rs := [3]) (by kernel_rfl) (by simp) (AllReadyH.cons (o := { dst := some 16, op := Op.buildSlice 33 1 #[(0, Operand.tmp 15)], type := 33, pos := "lz.go:21", after := #[{ on := 2, ground := Ground.data }], guard := none }) rfl (fun K hK => ?_) AllReadyH.nil)
      go_simp
      refine hK.out _ _ hS1 (fun hh => ?_)
      clear hK K hh
      try simp only [Act.put, List.setIfInBounds_toArray, List.set_cons_zero, List.set_cons_succ]
      rotate_left
      go_simp
      refine hK.out _ _ hS1 (fun hh => ?_)
      clear hK K hh
      try simp only [Act.put, List.setIfInBounds_toArray, List.set_cons_zero, List.set_cons_succ]
      refine wpAnyH_ready (rs := [0]) (by kernel_rfl) (by simp) (AllReadyH.cons (o := { dst := some 13, op := Op.load 33 (Operand.tmp 2), type := 33, pos := "lz.go:21", after := #[], guard := none }) rfl (fun K hK => ?_) AllReadyH.nil)
      go_simp
      refine hK.out _ _ hS1 (fun hh => ?_)
      clear hK K hh
      try simp only [Act.put, List.setIfInBounds_toArray, List.set_cons_zero, List.set_cons_succ]
      all_goals clear hd0 hS1 hHeld a1 a2
      all_goals refine wpAnyH_ready (rs := [4]) (by kernel_rfl) (by simp) (AllReadyH.cons (o := { dst := some 17, op := Op.call { callee := Callee.builtin Builtin.append, args := #[Operand.tmp 13, Operand.tmp 16], argTypes := #[33, 33] }, type := 33, pos := "lz.go:21", after := #[{ on := 0, ground := Ground.data }, { on := 3, ground := Ground.data }], guard := none }) rfl (fun K hK => ?_) AllReadyH.nil)
      all_goals (refine step_append_rd (wr.drew.alloc _) rfl (.tmp 13) (.tmp 16) 33 rfl base 5 (.int .u8 0) 1 1 Tryd.underlying33 infoU8 rfl (by decide) (.slice ao cs.length cap) cs.length (cs.map bV) rfl (hod.alloc _) (.slice (some ⟨wr.drew.heap.size, 0, none⟩) 1 1) 1 [.int .u8 (n : Int)] rfl (RdV.one _ _ _) (one_one _ rfl) h63 hby (hba _) ?_)
      all_goals (intro ao6 cap6 w6 hg6)
      all_goals (have HG := Lib.hid hg6.ofAlloc)
      all_goals (have HC6 := Lib.hid (HC.out.chg HG.out.chg (fun k hk h => by have := (hod.lt k h).1; omega)))
      all_goals (clear hg6)
      all_goals (refine hK.out _ _ ⟨HC6.out.c0, HC6.out.c2⟩ (fun hh => ?_))
      all_goals (clear hK K hh)
      all_goals try simp only [Act.put, List.setIfInBounds_toArray, List.set_cons_zero, List.set_cons_succ]
      all_goals refine wpAnyH_ready (rs := [11]) (by kernel_rfl) (by simp) (AllReadyH.cons (o := { dst := some 24, op := Op.call { callee := Callee.builtin Builtin.append, args := #[Operand.tmp 17, Operand.tmp 23], argTypes := #[33, 33] }, type := 33, pos := "lz.go:21", after := #[{ on := 4, ground := Ground.data }, { on := 10, ground := Ground.data }, { on := 4, ground := Ground.chain }], guard := none }) rfl (fun K hK => ?_) AllReadyH.nil)
      all_goals (refine step_append_rd w6 rfl (.tmp 17) (.tmp 23) 33 rfl base 5 (.int .u8 0) 1 1 Tryd.underlying33 infoU8 rfl (by decide) (.slice ao6 (cs.length + 1) cap6) (cs.length + 1) (cs.map bV ++ [.int .u8 (n : Int)]) rfl HG.out.owns (.slice (some ⟨b, off + j, none⟩) n (bcap - j)) n ((sub bs j (j + n)).map bV) rfl (subn_rd HC6.out.rd j n (by omega) (by have := HE.out.2.2.2.1; omega)) (bV_one _) h63b hbyb HC6.out.hb ?_)
      all_goals (intro ao7 cap7 w7 hg7)
      all_goals (have HG7 := Lib.hid hg7)
      all_goals (have HC7 := Lib.hid (HC6.out.chg HG7.out.chg (fun k hk h => by have := (HG.out.owns.lt k h).1; omega)))
      all_goals (clear hg7)
      all_goals (refine hK.out _ _ ⟨HC7.out.c0, HC7.out.c2⟩ (fun hh => ?_))
      all_goals (clear hK K hh)
      all_goals try simp only [Act.put, List.setIfInBounds_toArray, List.set_cons_zero, List.set_cons_succ]
      all_goals refine wpAnyH_ready (rs := [12]) (by kernel_rfl) (by simp) (AllReadyH.cons (o := { dst := none, op := Op.store 33 (Operand.tmp 2) (Operand.tmp 24), type := 0, pos := "lz.go:21", after := #[{ on := 11, ground := Ground.data }, { on := 11, ground := Ground.chain }, { on := 0, ground := Ground.phase }, { on := 1, ground := Ground.phase }, { on := 2, ground := Ground.phase }, { on := 3, ground := Ground.phase }, { on := 4, ground := Ground.phase }, { on := 5, ground := Ground.phase }, { on := 6, ground := Ground.phase }, { on := 7, ground := Ground.phase }, { on := 8, ground := Ground.phase }, { on := 9, ground := Ground.phase }, { on := 10, ground := Ground.phase }, { on := 11, ground := Ground.phase }], guard := none }) rfl (fun K hK => ?_) AllReadyH.nil)
      all_goals (have p1 := HC7.out.c1)
      all_goals (have p2 := HC7.out.f1)
      all_goals go_simp
      all_goals (have HC8 := Lib.hid (HC7.out.setOut (.slice ao7 (cs.length + 1 + n) cap7)))
      all_goals (refine hK.out _ _ ⟨HC8.out.c0, HC8.out.c2⟩ (fun hh => ?_))
      all_goals (clear hK K hh)
      all_goals try simp only [Act.put, List.setIfInBounds_toArray, List.set_cons_zero, List.set_cons_succ]
      all_goals (refine wpAnyH_done (by kernel_rfl) ?_ _)
      all_goals (obtain ⟨r0, r1, r2, r3, r4, _, _, _, _, _, _, _, _, _⟩ := HC8.out)
      all_goals clear p1 p2
      all_goals go_wp2_with fail
      all_goals go_roundg (gk - n)
      all_goals (try (case measure => go_light; have := HE.out.2.1; omega))
      all_goals (try (case rel =>
        go_light
        rw [show ((j : Int) + (n : Int)) = ((j + n : Nat) : Int) by simp]
        have e1 : List.map bV cs ++ [Value.int IntKind.u8 ↑n] ++ List.map bV (sub bs j (j + n)) = (cs ++ (UInt8.ofNat n :: sub bs j (j + n))).map bV := by
          simp [bV]; omega
        have hsl : (sub bs j (j + n)).length = n := by rw [sub_len _ _ _ (by have := HE.out.2.2.2.1; omega)]; omega
        have e2 : cs.length + 1 + n = (cs ++ (UInt8.ofNat n :: sub bs j (j + n))).length := by simp; omega
        have hg := HG7.out
        rw [e1, e2] at hg
        rw [e2] at HC8 ⊢
        have hfl := HFL.out
        rw [sub_take _ _ _ _ (by omega), sub_drop] at hfl
        refine ⟨j + n, cs ++ (UInt8.ofNat n :: sub bs j (j + n)), ao7, cap7, by have := HE.out.1; omega, by omega, by have := HE.out.2.1; omega, Lib.hid (HC8.out.setBeg (j + n)), Lib.hid ((Own.setCell hg.owns _ (by exact l1) _).setCell _ (by exact l0) _), Lib.hid ?_, Lib.hid ?_, ?_⟩
        · have k1 : Chg (LzS pb po base) w w6 := hch.out.trans' (Grew.ofDrew HG.out).chg (fun i _ h => .inr (.inr (hod.lt i h).1))
          have k2 : Chg (LzS pb po base) w w7 := k1.trans' hg.chg (fun i _ h => .inr (.inr (HG.out.owns.lt i h).1))
          exact (k2.setCell (fun _ => .inr (.inl rfl)) _).setCell (fun _ => .inl rfl) _
        · rw [List.append_assoc, ← hfl]; exact heq.out
        · have := HE.out.2.2.1; rw [List.length_append, List.length_cons, hsl]; omega))
end Go.Proofs.YthcgalpabjjkoaaDoor


/- XLzMap: lz.Pack's map: of each four bytes the latest place that is known. -/
namespace Go.Proofs.YthcgalpabjjkoaaDoor
open Go.RowKit Go.Maps
set_option linter.unusedVariables false

theorem arr4 : WideMaps.ArrKey Tryd.prog 137 5 4 := ⟨Tryd.underlying137, by kernel_rfl, by kernel_rfl, by kernel_rfl⟩
theorem law4 : Keyed Tryd.prog 137 := Keyed.of_law arr4.law
theorem zeroI (w : World) : (zeroValue 3).run Tryd.prog w = .ok (.int .i64 0) w := by kernel_rfl

theorem wfB (x : UInt8) : (Lit.int .u8 (x.toNat : Int)).wf = true := by
  have := x.toNat_lt
  simp [Lit.wf, IntKind.min, IntKind.max, IntKind.signed, IntKind.bits]
  omega

theorem litB (x : UInt8) : Lit.keyBytes (.int .u8 (x.toNat : Int)) = [x] := by
  have h := x.toNat_lt
  have e : ((x.toNat : Int) % 256).toNat = x.toNat := by omega
  simp [Lit.keyBytes, IntKind.bits, bytesBE, bytesLE, e]

theorem key4 (a b c d : UInt8) : keyOf Tryd.prog 137 (.agg #[.int .u8 (a.toNat : Int), .int .u8 (b.toNat : Int), .int .u8 (c.toNat : Int), .int .u8 (d.toNat : Int)]) = some (.string [a, b, c, d]) := by
  have hkt : Tryd.prog.keyType 137 = true := by kernel_rfl
  obtain ⟨m, hm⟩ : ∃ m, Tryd.prog.types.size = m + 1 := ⟨Tryd.prog.types.size - 1, by have h : 0 < Tryd.prog.types.size := of_decide_eq_true (by kernel_rfl); omega⟩
  unfold keyOf
  simp only [arr4.hu]
  rw [if_pos (by simp [hkt, Value.formed, arr4.hu, arr4.size]), hm]
  unfold Program.keyLits
  simp only [arr4.hu, Value.cells]
  rw [if_pos (by rw [arr4.size]; rfl), show List.range 4 = [0, 1, 2, 3] from rfl, List.mapM_cons, List.mapM_cons, List.mapM_cons, List.mapM_cons, List.mapM_nil]
  simp [arr4.one, Program.keyLits, Tryd.underlying5, wfB, keyBytes, litB]

theorem at4_eq (bs : List UInt8) (i : Nat) (h : i + 4 ≤ bs.length) : at4 bs i = [bs[i], bs[i + 1], bs[i + 2], bs[i + 3]] := by
  unfold at4
  apply List.ext_getElem
  · simp; omega
  · intro k h1 h2
    have h3 : k < 4 := by simpa using h2
    rw [List.getElem_take, List.getElem_drop]
    match k, h3 with
    | 0, _ => rfl
    | 1, _ => rfl
    | 2, _ => rfl
    | 3, _ => rfl

/-- The map's block: the places below s are known. -/
def MapIs (w : World) (mb : Nat) (bs : List UInt8) (s : Nat) : Prop :=
  ∃ D : DataW Unit, w.ownsMap Tryd.prog 137 (plainElem Tryd.prog 3) mb s D ∧
    ∀ j, j + 4 ≤ bs.length → Maps.has D (.string (at4 bs j)) = (lastB bs j s).isSome ∧ D.atKey (.string (at4 bs j)) (.lit (.int .i64 0)) = .lit (.int .i64 (((lastB bs j s).getD 0 : Nat) : Int))

theorem MapIs.made (w : World) (bs : List UInt8) : MapIs (w.alloc (.map #[] 0)) w.heap.size bs 0 :=
  ⟨.map [], World.ownsMap_made _ _ _ _, fun j _ => ⟨rfl, rfl⟩⟩

theorem MapIs.chg {S : Nat → Prop} {w w' : World} {mb : Nat} {bs : List UInt8} {s : Nat} (h : MapIs w mb bs s) (hc : Chg S w w') (hS : ¬ S mb) : MapIs w' mb bs s := by
  obtain ⟨D, hD, hq⟩ := h
  refine ⟨D, ?_, hq⟩
  have hl := hD.lt
  obtain ⟨es, clock, hb, rest⟩ := hD
  exact ⟨es, clock, (hc.block mb hl hS).trans hb, rest⟩

theorem put_ok {D : DataW Unit} {bs : List UInt8} {s : Nat} (hm : IsMap D) (hs : s + 4 ≤ bs.length)
    (hq : ∀ j, j + 4 ≤ bs.length → Maps.has D (.string (at4 bs j)) = (lastB bs j s).isSome ∧ D.atKey (.string (at4 bs j)) (.lit (.int .i64 0)) = .lit (.int .i64 (((lastB bs j s).getD 0 : Nat) : Int))) :
    ∀ j, j + 4 ≤ bs.length → Maps.has (D.put (.string (at4 bs s)) (.lit (.int .i64 (s : Int)))) (.string (at4 bs j)) = (lastB bs j (s + 1)).isSome ∧
      (D.put (.string (at4 bs s)) (.lit (.int .i64 (s : Int)))).atKey (.string (at4 bs j)) (.lit (.int .i64 0)) = .lit (.int .i64 (((lastB bs j (s + 1)).getD 0 : Nat) : Int)) := by
  intro j hj
  by_cases h : at4 bs s = at4 bs j
  · rw [← h, has_put_same hm (show WideAt.IsKeyLit (.string (at4 bs s)) from True.intro), atKey_put_same hm (show WideAt.IsKeyLit (.string (at4 bs s)) from True.intro)]
    simp [lastB, h]
  · have hne : (Lit.string (at4 bs j)) ≠ .string (at4 bs s) := fun e => by
      injection e with e
      exact h e.symm
    rw [has_put_other hne, atKey_put_other hne]
    obtain ⟨h1, h2⟩ := hq j hj
    simp only [lastB, if_neg h]
    exact ⟨h1, h2⟩

end Go.Proofs.YthcgalpabjjkoaaDoor

/- XLzPack: The contract of lz.Pack. -/
namespace Go.Proofs.YthcgalpabjjkoaaDoor
open Go.RowKit Go.Maps
set_option linter.unusedVariables false

theorem LzC.chg' {S : Nat → Prop} {w w' : World} {pb po px base i : Nat} {sv bv : Value} {bs : List UInt8} (h : LzC w pb po px base i sv bv bs) (hc : Chg S w w') (s0 : ¬ S pb) (s1 : ¬ S po) (s2 : ¬ S px) (s3 : 0 < bs.length → ∀ k, bv.ownBlock = some k → ¬ S k) : LzC w' pb po px base i sv bv bs := by
  obtain ⟨c0, f0, c1, f1, c2, rd, hb, l0, l1, l2, n0, n1, n2, bb⟩ := h
  exact ⟨(hc.cell (p := ⟨pb, 0, none⟩) (Nat.lt_of_lt_of_le l0 hb) s0).trans c0, (hc.frozen (p := ⟨pb, 0, none⟩) (Nat.lt_of_lt_of_le l0 hb) s0).trans f0,
    (hc.cell (p := ⟨po, 0, none⟩) (Nat.lt_of_lt_of_le l1 hb) s1).trans c1, (hc.frozen (p := ⟨po, 0, none⟩) (Nat.lt_of_lt_of_le l1 hb) s1).trans f1,
    (hc.cell (p := ⟨px, 0, none⟩) (Nat.lt_of_lt_of_le l2 hb) s2).trans c2, rd.chg0 hc s3, Nat.le_trans hb hc.size, l0, l1, l2, n0, n1, n2, bb⟩

theorem LzC.make (w : World) (v : Value) (bs : List UInt8) (hr : Rd w v bs) (hb : 0 < bs.length → ∀ k, v.ownBlock = some k → k < w.heap.size) (t0 t1 t2 : TypeId) :
    LzC ((((w.alloc (.cells #[v] t0)).alloc (.map #[] 0)).alloc (.cells #[.slice none 0 0] t1)).alloc (.cells #[.int .i64 0] t2)) (w.heap.size + 1 + 1 + 1) (w.heap.size + 1 + 1) w.heap.size (w.heap.size + 4) 0 (.slice none 0 0) v bs ∧
    MapIs ((((w.alloc (.cells #[v] t0)).alloc (.map #[] 0)).alloc (.cells #[.slice none 0 0] t1)).alloc (.cells #[.int .i64 0] t2)) (w.heap.size + 1) bs 0 := by
  refine ⟨⟨?_, ?_, ?_, ?_, ?_, ?_, by simp, by omega, by omega, by omega, by omega, by omega, by omega, fun h0 k hk => by have := hb h0 k hk; omega⟩, ?_⟩
  · rw [World.cell?_alloc_at _ _ _ _ (by simp)]; rfl
  · rw [World.frozen?_alloc_at _ _ _ _ (by simp)]
  · rw [World.cell?_alloc_past _ _ _ (by simp), World.cell?_alloc_at _ _ _ _ (by simp)]; rfl
  · rw [World.frozen?_alloc_past _ _ _ (by simp), World.frozen?_alloc_at _ _ _ _ (by simp)]
  · rw [World.cell?_alloc_past _ _ _ (by simp; omega), World.cell?_alloc_past _ _ _ (by simp; omega), World.cell?_alloc_past _ _ _ (by simp), World.cell?_alloc_at _ _ _ _ rfl]; rfl
  · exact (((hr.v.alloc _).alloc _).alloc _).alloc _
  · have h1 := MapIs.made (w.alloc (.cells #[v] t0)) bs
    have e : (w.alloc (.cells #[v] t0)).heap.size = w.heap.size + 1 := by simp
    rw [e] at h1
    exact h1.chg (((Chg.refl (fun _ => False) _).alloc _).alloc _) (fun h => h)

theorem mem_ofNat (n : Nat) (h : n < 256) : ((UInt8.ofNat n).toNat : Int) = n := by simp; omega

theorem pk_skip {bs : List UInt8} {a beg : Nat} (h : a + 4 ≤ bs.length) (hn : near bs a = none) : pk bs a beg = pk bs (a + 1) beg := by
  rw [pk, if_pos h, hn]
theorem pk_take {bs : List UInt8} {a beg p : Nat} (h : a + 4 ≤ bs.length) (hn : near bs a = some p) :
    pk bs a beg = flush (sub bs beg a) ++ (piece (ext bs p a 4 127) (a - p) ++ pk bs (a + (4 + ext bs p a 4 127)) (a + (4 + ext bs p a 4 127))) := by
  rw [pk, if_pos h, hn]; rfl
theorem pk_end {bs : List UInt8} {a beg : Nat} (h : ¬ a + 4 ≤ bs.length) : pk bs a beg = flush (bs.drop beg) := by
  rw [pk, if_neg h]

theorem near_none {bs : List UInt8} {a : Nat} (h : lastB bs a a = none) : near bs a = none := by simp [near, h]
theorem near_far {bs : List UInt8} {a p : Nat} (h : lastB bs a a = some p) (hf : ¬ a - p ≤ 65535) : near bs a = none := by simp [near, h]; omega
theorem near_some {bs : List UInt8} {a p : Nat} (h : lastB bs a a = some p) (hf : a - p ≤ 65535) : near bs a = some p := by simp [near, h]; omega

theorem piece_bV (q s p : Nat) (h1 : 4 ≤ q) (h2 : q ≤ 131) (h3 : p < s) (h4 : s - p ≤ 65535) :
    [Value.int .u8 (128 + (q : Int) - 4), .int .u8 (((s : Int) - (p : Int)) / 256), .int .u8 (((s : Int) - (p : Int)) % 256)] = (piece (q - 4) (s - p)).map bV := by
  have e1 : ((UInt8.ofNat (128 + (q - 4))).toNat : Int) = 128 + (q : Int) - 4 := by rw [UInt8.toNat_ofNat']; omega
  have e2 : ((UInt8.ofNat ((s - p) / 256)).toNat : Int) = ((s : Int) - (p : Int)) / 256 := by rw [UInt8.toNat_ofNat']; omega
  have e3 : ((UInt8.ofNat (s - p)).toNat : Int) = ((s : Int) - (p : Int)) % 256 := by rw [UInt8.toNat_ofNat']; omega
  simp only [piece, List.map_cons, List.map_nil, bV, e1, e2, e3]

theorem take_eq {bs cs : List UInt8} {s beg p q : Nat} (h1 : cs ++ pk bs s beg = pk bs 0 0) (h2 : pk bs s beg = flush (sub bs beg s) ++ (piece (ext bs p s 4 127) (s - p) ++ pk bs (s + (4 + ext bs p s 4 127)) (s + (4 + ext bs p s 4 127))))
    (hX : q = 4 + ext bs p s 4 127) : (cs ++ flush (sub bs beg s)) ++ (piece (q - 4) (s - p) ++ pk bs (s + q) (s + q)) = pk bs 0 0 := by
  have : ext bs p s 4 127 = q - 4 := by omega
  rw [← hX, this] at h2
  rw [List.append_assoc, ← h2]
  exact h1

theorem lit_inj {H : Type} {a b : Int} (h : (DataW.lit (H := H) (.int .i64 a)) = .lit (.int .i64 b)) : a = b := by
  injection h with h
  injection h

theorem ext_stop {bs : List UInt8} {p a m f : Nat} (h : ¬ (a + m < bs.length ∧ bs[p + m]? = bs[a + m]?)) : ext bs p a m f = 0 := by
  cases f with
  | zero => rfl
  | succ f => rw [ext, if_neg h]
theorem cs_len {cs bs : List UInt8} {beg s : Nat} (h1 : cs.length ≤ 2 * beg) (h2 : beg ≤ s) (h3 : s ≤ bs.length) : (cs ++ flush (sub bs beg s)).length ≤ 2 * s := by
  have h := flush_len (sub bs beg s)
  rw [sub_len _ _ _ h3] at h
  rw [List.length_append]
  omega

theorem three_one (a b c : Int) : ∀ u ∈ [Value.int .u8 a, Value.int .u8 b, Value.int .u8 c], u.oneCell' = true := by
  intro u hu
  simp at hu
  rcases hu with rfl | rfl | rfl <;> rfl
theorem ext_stop_zero {bs : List UInt8} {p a m : Nat} : ext bs p a m 0 = 0 := rfl
theorem ext_go {bs : List UInt8} {p a m f : Nat} (h : a + m < bs.length ∧ bs[p + m]? = bs[a + m]?) : ext bs p a m (f + 1) = 1 + ext bs p a (m + 1) f := by
  rw [ext, if_pos h]

theorem u8_ne {x y : UInt8} (h : ¬ x = y) : decide ((x.toNat : Int) = (y.toNat : Int)) = false := by
  refine decide_eq_false fun e => h ?_
  have : x.toNat = y.toNat := by omega
  exact UInt8.toNat_inj.1 this

theorem u8_ne2 {x y : UInt8} (h : ¬ x = y) : ((x.toNat : Int) == (y.toNat : Int)) = false := by
  have := u8_ne h
  simpa using this

set_option maxHeartbeats 4000000 in
set_option maxRecDepth 100000 in
theorem lzpack_any (bs : List UInt8) (v : Value) (w : World) (hn : bs.length ≤ 4194304) (hr : Rd w v bs) :
    Calls Tryd.prog 80 #[v] w fun e w' => ∃ ao cap, e = .returned (.slice ao (pk bs 0 0).length cap) ∧ Own w' w.heap.size (.slice ao (pk bs 0 0).length cap) (pk bs 0 0) ∧ Below w.heap.size w w' := by
  have hmm := @run_makeMap Tryd.prog
  obtain ⟨ao0, cap0, rfl, hnc, hcm⟩ := RdV.shape hr
  unfold maxLen at hcm
  go_enter Tryd.func80, Tryd.ntmps80
  have hvb : 0 < bs.length → ∀ k, (Value.slice ao0 bs.length cap0).ownBlock = some k → k < w.heap.size := fun h k hk => Rd.blk hr h k hk
  obtain ⟨hC0, hM0⟩ := LzC.make w _ bs hr hvb 33 33 3
  have HC0 := Lib.hid hC0
  have HM0 := Lib.hid hM0
  have HB0 := Lib.hid (((((Below.refl w.heap.size w).alloc (Nat.le_refl _) (.cells #[.slice ao0 bs.length cap0] 33)).alloc (by simp) (.map #[] 0)).alloc (by simp; omega) (.cells #[.slice none 0 0] 33)).alloc (by simp; omega) (.cells #[.int .i64 0] 3))
  clear hC0 hM0
  go_wp2_with fail
  generalize (((w.alloc (.cells #[.slice ao0 bs.length cap0] 33)).alloc (.map #[] 0)).alloc (.cells #[.slice none 0 0] 33)).alloc (.cells #[.int .i64 0] 3) = w0 at *
  obtain ⟨pb, hpb⟩ : ∃ pb, pb = w.heap.size + 1 + 1 + 1 := ⟨_, rfl⟩
  obtain ⟨po, hpo⟩ : ∃ po, po = w.heap.size + 1 + 1 := ⟨_, rfl⟩
  obtain ⟨mb, hmb⟩ : ∃ mb, mb = w.heap.size + 1 := ⟨_, rfl⟩
  obtain ⟨px, hpx⟩ : ∃ px, px = w.heap.size := ⟨_, rfl⟩
  obtain ⟨base, hba⟩ : ∃ base, base = w.heap.size + 4 := ⟨_, rfl⟩
  rw [← hpb, ← hpo, ← hba] at HC0
  rw [← hmb] at HM0
  rw [← hpb, ← hpo, ← hmb]
  have HN := Lib.hid (⟨hpb, hpo, hmb, hpx, hba⟩ : pb = w.heap.size + 1 + 1 + 1 ∧ po = w.heap.size + 1 + 1 ∧ mb = w.heap.size + 1 ∧ px = w.heap.size ∧ base = w.heap.size + 4)
  clear hpb hpo hmb hpx hba hvb
  go_loopg [6, 8] bs.length (fun m s6 s8 wr => ∃ (a beg seen : Nat) (cs : List UInt8) (ao : Option Addr) (cap : Nat), a + m = bs.length ∧ beg ≤ a ∧ seen ≤ a ∧ s6 = .int .i64 (seen : Int) ∧ s8 = .int .i64 (a : Int) ∧ cs.length ≤ 2 * beg ∧ Hid (cs ++ pk bs a beg = pk bs 0 0) ∧
    Hid (LzC wr pb po w.heap.size base beg (.slice ao cs.length cap) (.slice ao0 bs.length cap0) bs) ∧ Hid (Own wr base (.slice ao cs.length cap) cs) ∧ Hid (MapIs wr mb bs seen) ∧ Hid (Below w.heap.size w wr))
  case atStart => exact ⟨0, 0, 0, [], none, 0, by omega, Nat.le_refl _, Nat.le_refl _, rfl, rfl, by simp, Lib.hid rfl, HC0, Lib.hid (Own.nil _ _), HM0, HB0⟩
  case round =>
    clear HC0 HM0 HB0 hmm
    obtain ⟨a, beg, seen, cs, ao, cap, hm, hbeg, hseen, rfl, rfl, hlen, heq, hC, hO, hM, hB⟩ := hrel
    have c0 := hC.out.c0
    have c1 := hC.out.c1
    have c2 := hC.out.c2
    by_cases h4 : a + 4 ≤ bs.length
    · obtain ⟨b, off, bcap, hbv, hbn, hbm, _, _⟩ := RdV.some hr.v (by omega) (by decide)
      simp only [Value.slice.injEq, true_and] at hbv
      obtain ⟨rfl, rfl⟩ := hbv
      have hd4 : decide ((a : Int) + 4 ≤ (bs.length : Int)) = true := decide_eq_true (by omega)
      obtain ⟨g0, hg0⟩ : ∃ g, g = gk := ⟨gk, rfl⟩
      have HH := Lib.hid (⟨hm, hbeg, hseen, hlen, hg0⟩ : a + gk = bs.length ∧ beg ≤ a ∧ seen ≤ a ∧ cs.length ≤ 2 * beg ∧ g0 = gk)
      have HR := Lib.hid hr
      clear hm hbeg hlen hg0 hr
      go_wp2_with fail
      clear c0 c1 c2
      go_loopg [6] (a - seen) (fun m s6 wr => ∃ s : Nat, s + m = a ∧ s6 = .int .i64 (s : Int) ∧
        Hid (LzC wr pb po w.heap.size base beg (.slice ao cs.length cap) (.slice (some ⟨b, off, none⟩) bs.length cap0) bs) ∧ Hid (Own wr base (.slice ao cs.length cap) cs) ∧ Hid (MapIs wr mb bs s) ∧ Hid (Below w.heap.size w wr))
      case atStart => exact ⟨seen, by omega, rfl, hC, hO, hM, hB⟩
      case round =>
        clear hC hO hM hB
        obtain ⟨s, hsa, rfl, hC, hO, hM, hB⟩ := hrel
        have c0 := hC.out.c0
        have c1 := hC.out.c1
        have c2 := hC.out.c2
        have hcell : ∀ (k : Nat) (hk : k < bs.length), wr.cell? ⟨b, off + k, none⟩ = some (.int .u8 (bs[k].toNat : Int)) := fun k hk => by
          obtain ⟨b', off', cap', he, _, _, _, hcc⟩ := RdV.some hC.out.rd.v (by omega) (by decide)
          simp only [Value.slice.injEq, Option.some.injEq, Addr.mk.injEq, true_and, and_true] at he
          obtain ⟨⟨rfl, rfl⟩, rfl⟩ := he
          exact hcc k _ (by simp [hk, bV])
        by_cases h0 : gk = 0
        · obtain rfl : s = a := by omega
          have hkey := key4 bs[s] bs[s + 1] bs[s + 2] bs[s + 3]
          rw [← at4_eq bs s h4] at hkey
          have e0 := hcell s (by omega)
          have e1 : wr.cell? ⟨b, off + s + 1, none⟩ = some (.int .u8 (bs[s + 1].toNat : Int)) := hcell (s + 1) (by omega)
          have e2 : wr.cell? ⟨b, off + s + 2, none⟩ = some (.int .u8 (bs[s + 2].toNat : Int)) := hcell (s + 2) (by omega)
          have e3 : wr.cell? ⟨b, off + s + 3, none⟩ = some (.int .u8 (bs[s + 3].toNat : Int)) := hcell (s + 3) (by omega)
          have hcl : ¬ cap0 = s := by omega
          have hat : ∀ w, (Instr.arrayAt 137 (.slice (some ⟨b, off + s, none⟩) (bs.length - s) (cap0 - s))).run Tryd.prog w = .ok (.pointer (some ⟨b, off + s, none⟩)) w := fun w => run_arrayAt w 137 _ 4 _ _ _ Tryd.underlying137 (by omega)
          obtain ⟨D, hD, hq⟩ := hM.out
          obtain ⟨q1, q2⟩ := hq s h4
          clear hq hsa h0 hseen
          cases hl : lastB bs s s with
          | none =>
            rw [hl] at q1 q2
            have HK := Lib.hid (pk_skip (beg := beg) h4 (near_none hl))
            have HQ1 := Lib.hid q1
            have HQ2 := Lib.hid q2
            clear q1 q2 hl hcell
            go_wp2_with (at_lookup; refine wpList_lookup_own_ok_int _ rfl _ _ 135 rfl 137 3 .i64 law4 Tryd.underlying135 Tryd.underlying3 (zeroI _) mb s D rfl hD _ _ rfl hkey ?_; intro c hat' hwc; rw [show Maps.has D (.string (at4 bs s)) = false from HQ1.out]; clear hat' hwc)
            go_roundg (g0 - 1)
            case measure => go_light; have := HH.out; omega
            case rel =>
              go_light
              have hh := HH.out
              exact ⟨s + 1, beg, s, cs, ao, cap, by omega, by omega, by omega, rfl, by go_num, hh.2.2.2.1, Lib.hid (by rw [← HK.out]; exact heq.out), hC, hO, hM, hB⟩
          | some p =>
            rw [hl] at q1 q2
            have hps := lastB_lt bs s s p hl
            have HQ1 := Lib.hid q1
            have HQ2 := Lib.hid (show D.atKey (.string (at4 bs s)) (.lit (.int .i64 0)) = .lit (.int .i64 ((p : Nat) : Int)) from q2)
            have hp1 := hps.1
            clear q1 q2 hps
            by_cases hf : s - p ≤ 65535
            · have HK := Lib.hid (pk_take (beg := beg) h4 (near_some hl hf))
              have hfI : decide ((65535 : Int) < (s : Int) - (p : Int)) = false := decide_eq_false (by omega)
              have hP := plain_any pb po w.heap.size base beg s (.slice ao cs.length cap) (.slice (some ⟨b, off, none⟩) bs.length cap0) cs bs wr (by have := HH.out; omega) (by omega) (by have := HH.out; omega) hC.out hO.out
              have HP := Lib.hid hP
              have HI : Hid (∀ k, LzS pb po base k → w.heap.size ≤ k) := Lib.hid (fun k hk => by have := HN.out; unfold LzS at hk; omega)
              clear hl hP
              go_wp2_with (at_lookup; refine wpList_lookup_own_ok_int _ rfl _ _ 135 rfl 137 3 .i64 law4 Tryd.underlying135 Tryd.underlying3 (zeroI _) mb s D rfl hD _ _ rfl hkey ?_; intro c hat' hwc; rw [show Maps.has D (.string (at4 bs s)) = true from HQ1.out]; have hcp := Lib.hid (lit_inj (HQ2.out.symm.trans hat')); clear hat' hwc; rw [← hcp.out]; clear hcp)
              refine HP.out.mono ?_
              rintro e w5 ⟨rfl, ao5, cap5, hC5, hO5, hch5⟩
              have HM5 := Lib.hid (hM.out.chg hch5 (fun h => by have := HN.out; unfold LzS at h; omega))
              have HC5 := Lib.hid hC5
              have HO5 := Lib.hid hO5
              have HB5 := Lib.hid (hB.out.trans (hch5.below hB.out.size HI.out))
              clear hC5 hO5 hch5 c0 c1 c2 HP hM hC hO hB hcell e0 e1 e2 e3 hat hkey hD HQ1 HQ2 hd4
              go_wp2_with fail
              have HE := Lib.hid (⟨h4, hp1, hf, hn⟩ : s + 4 ≤ bs.length ∧ p < s ∧ s - p ≤ 65535 ∧ bs.length ≤ 4194304)
              go_loopg [11] 127 (fun m s11 wr => ∃ q : Nat, q + m = 131 ∧ 4 ≤ q ∧ s11 = .int .i64 (q : Int) ∧ s + q ≤ bs.length ∧ Hid (q + ext bs p s q m = 4 + ext bs p s 4 127) ∧ ∃ d, wr = w5.drewN d)
              case atStart => exact ⟨4, rfl, Nat.le_refl _, rfl, h4, Lib.hid rfl, 0, rfl⟩
              case round =>
                obtain ⟨q, hq, hq4, rfl, hqn, hext, d, rfl⟩ := hrel
                have c0 := HC5.out.c0
                have c1 := HC5.out.c1
                have c2 := HC5.out.c2
                have f1 := HC5.out.f1
                have f0 := HC5.out.f0
                have hcell : ∀ (k : Nat) (hk : k < bs.length), w5.cell? ⟨b, off + k, none⟩ = some (.int .u8 (bs[k].toNat : Int)) := fun k hk => by
                  obtain ⟨b', off', cap', he, _, _, _, hcc⟩ := RdV.some HC5.out.rd.v (by omega) (by decide)
                  simp only [Value.slice.injEq, Option.some.injEq, Addr.mk.injEq, true_and, and_true] at he
                  obtain ⟨⟨rfl, rfl⟩, rfl⟩ := he
                  exact hcc k _ (by simp [hk, bV])
                have hw1 : IntKind.i64.wrap ((s : Int) + (q : Int)) = (s : Int) + (q : Int) := IntWalk.i64_in _ (by omega)
                have hw2 : IntKind.i64.wrap ((p : Int) + (q : Int)) = (p : Int) + (q : Int) := IntWalk.i64_in _ (by omega)
                by_cases hA : gk = 0
                case' pos =>
                  have hX : Hid (q = 4 + ext bs p s 4 127) := Lib.hid (by have := hext.out; rw [hA, ext_stop_zero] at this; exact this)
                  have hgA : decide ((q : Int) < 131) = false := decide_eq_false (by omega)
                  clear hext hq hA hcell
                  go_upto_region 15 with fail
                  go_quiet (fail)
                case' neg =>
                  have hgA : decide ((q : Int) < 131) = true := decide_eq_true (by omega)
                  by_cases hBq : s + q < bs.length
                  case' neg =>
                    have hX : Hid (q = 4 + ext bs p s 4 127) := Lib.hid (by have := hext.out; rw [ext_stop (fun h => hBq h.1)] at this; exact this)
                    have hgB : decide ((s : Int) + (q : Int) < (bs.length : Int)) = false := decide_eq_false (by omega)
                    clear hext hq hA hcell
                    go_upto_region 15 with fail
                    go_quiet (fail)
                  case' pos =>
                    have hgB : decide ((s : Int) + (q : Int) < (bs.length : Int)) = true := decide_eq_true (by omega)
                    have e1 := hcell (s + q) hBq
                    have e2 := hcell (p + q) (by omega)
                    have t1 : ((s : Int) + (q : Int)).toNat = s + q := by omega
                    have t2 : ((p : Int) + (q : Int)).toNat = p + q := by omega
                    have t3 : (0 : Int) ≤ (s : Int) + (q : Int) := by omega
                    have t4 : (0 : Int) ≤ (p : Int) + (q : Int) := by omega
                    have t5 : (p : Int) + (q : Int) < (bs.length : Int) := by omega
                    have t6 : (s : Int) + (q : Int) < (bs.length : Int) := by omega
                    by_cases hCq : bs[p + q] = bs[s + q]
                    case' neg =>
                      have hX : Hid (q = 4 + ext bs p s 4 127) := Lib.hid (by have := hext.out; rw [ext_stop (fun h => hCq (by have h2 := h.2; rw [List.getElem?_eq_getElem (by omega), List.getElem?_eq_getElem hBq] at h2; exact Option.some.inj h2))] at this; exact this)
                      have hgC := u8_ne hCq
                      have hgC2 := u8_ne2 hCq
                      generalize bs[p + q] = x at *
                      generalize bs[s + q] = y at *
                      clear hext hq hA hcell
                      go_upto_region 15 with fail
                      go_quiet (fail)
                    case' pos =>
                      have hX : Hid ((q + 1) + ext bs p s (q + 1) (gk - 1) = 4 + ext bs p s 4 127) := Lib.hid (by
                        have := hext.out
                        obtain ⟨g1, rfl⟩ : ∃ g1, gk = g1 + 1 := ⟨gk - 1, by omega⟩
                        rw [ext_go ⟨hBq, by rw [List.getElem?_eq_getElem (by omega), List.getElem?_eq_getElem hBq, hCq]⟩] at this
                        rw [Nat.add_sub_cancel]
                        omega)
                      rw [hCq] at e2
                      generalize bs[s + q] = y at *
                      clear hext hcell
                      go_upto_region 15 with fail
                      go_quiet (fail)
                      go_wp2_with fail
                      go_roundg (gk - 1)
                      case measure => go_light; omega
                      case rel =>
                        go_light
                        exact ⟨q + 1, by omega, by omega, by go_num, by omega, hX, _, rfl⟩
                all_goals clear hw1 hw2 c2
                all_goals (simp only [World.drewN_drewN])
                all_goals (have hq1 : 4 ≤ q := hq4)
                all_goals (have hq2 : q ≤ 131 := by have := hX.out; have := ext_le bs p s 127 4; omega)
                all_goals (have HCd := Lib.hid (show LzC (w5.drewN (d + nq)) pb po w.heap.size base s (.slice ao5 (cs ++ flush (sub bs beg s)).length cap5) (.slice (some ⟨b, off, none⟩) bs.length cap0) bs from HC5.out.chg' (S := fun _ => False) ⟨rfl, rfl, rfl, Nat.le_refl _, fun _ _ _ => rfl⟩ (fun h => h) (fun h => h) (fun h => h) (fun _ _ _ h => h)))
                all_goals (have HOd := Lib.hid (show Own (w5.drewN (d + nq)) base (.slice ao5 (cs ++ flush (sub bs beg s)).length cap5) (cs ++ flush (sub bs beg s)) from HO5.out))
                all_goals (have HMd := Lib.hid (show MapIs (w5.drewN (d + nq)) mb bs s from HM5.out))
                all_goals (have HBd := Lib.hid (show Below w.heap.size w (w5.drewN (d + nq)) from ⟨HB5.out.os, HB5.out.tape, HB5.out.output, HB5.out.size, HB5.out.block⟩))
                all_goals (have hLn := cs_len HH.out.2.2.2.1 HH.out.2.1 (show s ≤ bs.length by omega))
                all_goals (have hss := HE.out.1)
                all_goals (have hspi : s ≤ 4194304 := by have := HE.out; omega)
                all_goals (have d0 := HCd.out.c0)
                all_goals (have d1 := HCd.out.c1)
                all_goals (have k0 := HCd.out.f0)
                all_goals (have k1 := HCd.out.f1)
                all_goals (have hsz5 : base ≤ (w5.drewN (d + nq)).heap.size := HCd.out.hb)
                all_goals (have HEQ := Lib.hid (take_eq heq.out HK.out hX.out))
                all_goals clear c0 c1 f0 f1 HC5 HO5 HM5 HB5
                all_goals (generalize w5.drewN (d + nq) = wd at *)
                all_goals (generalize cs ++ flush (sub bs beg s) = C at *)
                all_goals (have h63 : C.length + 3 ≤ maxLen := by unfold maxLen; omega)
                all_goals (have hby : (C.length + 3) * 1 ≤ 140737488355328 := by omega)
                all_goals (have hba : ∀ o, base ≤ (wd.alloc o).heap.size := fun o => by simp; omega)
                all_goals go_wp2_with (at_builtin; refine wpList_append_rd _ rfl (.tmp 81) (.tmp 95) 33 rfl base 5 (.int .u8 0) 1 1 Tryd.underlying33 infoU8 rfl (by decide) (.slice ao5 C.length cap5) C.length (C.map bV) rfl (HOd.out.alloc _) (.slice (some ⟨wd.heap.size, 0, none⟩) 3 3) 3 [.int .u8 (128 + (q : Int) - 4), .int .u8 (((s : Int) - (p : Int)) / 256), .int .u8 (((s : Int) - (p : Int)) % 256)] rfl (RdV.lit _ _ _ 3 1 (by decide) rfl) (three_one _ _ _) h63 hby (hba _) ?_; intro ao6 cap6 w6 hg6; have HG6 := Lib.hid hg6.ofAlloc; have HC6 := Lib.hid (HCd.out.chg hg6.ofAlloc.chg (fun k hk h => by have := (HOd.out.lt k h).1; omega)); have m0 := HC6.out.c0; have m1 := HC6.out.c1; have n0 := HC6.out.f0; have n1 := HC6.out.f1; have r0 := HC6.out.n0; clear hg6)
                all_goals go_roundg (g0 - q)
                all_goals (try (case measure => go_light; have := HH.out; omega))
                all_goals (try (case rel =>
                  go_light
                  have hn' := HN.out
                  have hg := HG6.out
                  rw [piece_bV q s p hq1 hq2 HE.out.2.1 HE.out.2.2.1, ← List.map_append] at hg
                  have e2 : C.length + 3 = (C ++ piece (q - 4) (s - p)).length := by rw [List.length_append]; rfl
                  rw [e2] at hg ⊢
                  have hS6 : ¬ LzS pb po base mb := fun h => by unfold LzS at h; omega
                  have k1 : Chg (LzS pb po base) wd w6 := hg.chg.mono (fun i _ h => .inr (.inr (HOd.out.lt i h).1))
                  have k2 : ∀ u u', Chg (LzS pb po base) wd ((w6.setCell ⟨po, 0, none⟩ u).setCell ⟨pb, 0, none⟩ u') := fun u u' => (k1.setCell (fun _ => .inr (.inl rfl)) _).setCell (fun _ => .inl rfl) _
                  rw [show ((s : Int) + (q : Int)) = ((s + q : Nat) : Int) by simp]
                  refine ⟨s + q, s + q, s, C ++ piece (q - 4) (s - p), ao6, cap6, by have := HH.out; omega, Nat.le_refl _, by omega, rfl, rfl, by rw [← e2]; omega, Lib.hid (by rw [List.append_assoc]; exact HEQ.out), Lib.hid ((HC6.out.setOut _).setBeg (s + q)),
                    Lib.hid ((Own.setCell hg.owns _ (by have := HC6.out.l1; exact this) _).setCell _ (by have := HC6.out.l0; exact this) _), Lib.hid (HMd.out.chg (k2 _ _) hS6), Lib.hid (HBd.out.trans ((k2 _ _).below HBd.out.size HI.out))⟩))
            · have HK := Lib.hid (pk_skip (beg := beg) h4 (near_far hl hf))
              have hfI : decide ((65535 : Int) < (s : Int) - (p : Int)) = true := decide_eq_true (by omega)
              clear hl hcell
              go_wp2_with (at_lookup; refine wpList_lookup_own_ok_int _ rfl _ _ 135 rfl 137 3 .i64 law4 Tryd.underlying135 Tryd.underlying3 (zeroI _) mb s D rfl hD _ _ rfl hkey ?_; intro c hat' hwc; rw [show Maps.has D (.string (at4 bs s)) = true from HQ1.out]; have hcp := Lib.hid (lit_inj (HQ2.out.symm.trans hat')); clear hat' hwc; rw [← hcp.out]; clear hcp)
              go_roundg (g0 - 1)
              case measure => go_light; have := HH.out; omega
              case rel =>
                go_light
                have hh := HH.out
                exact ⟨s + 1, beg, s, cs, ao, cap, by omega, by omega, by omega, rfl, by go_num, hh.2.2.2.1, Lib.hid (by rw [← HK.out]; exact heq.out), hC, hO, hM, hB⟩
        · have e0 := hcell s (by omega)
          have e1 : wr.cell? ⟨b, off + s + 1, none⟩ = some (.int .u8 (bs[s + 1].toNat : Int)) := hcell (s + 1) (by omega)
          have e2 : wr.cell? ⟨b, off + s + 2, none⟩ = some (.int .u8 (bs[s + 2].toNat : Int)) := hcell (s + 2) (by omega)
          have e3 : wr.cell? ⟨b, off + s + 3, none⟩ = some (.int .u8 (bs[s + 3].toNat : Int)) := hcell (s + 3) (by omega)
          have hcl : ¬ cap0 = s := by omega
          obtain ⟨D, hD, hq⟩ := hM.out
          have HQ := Lib.hid (put_ok hD.isMap (by omega) hq)
          have hkey := key4 bs[s] bs[s + 1] bs[s + 2] bs[s + 3]
          rw [← at4_eq bs s (by omega)] at hkey
          have hwf : (Lit.int .i64 (s : Int)).wf = true := WalkArith.wf_i64 (by omega)
          have h63 : s < maxLen := by unfold maxLen; omega
          have hat : ∀ w, (Instr.arrayAt 137 (.slice (some ⟨b, off + s, none⟩) (bs.length - s) (cap0 - s))).run Tryd.prog w = .ok (.pointer (some ⟨b, off + s, none⟩)) w := fun w => run_arrayAt w 137 _ 4 _ _ _ Tryd.underlying137 (by omega)
          clear hq hcell
          go_wp2_with (at_mapUpdate; refine wpList_mapUpdate_own _ rfl _ _ _ 135 rfl 137 3 law4 Tryd.underlying135 _ mb s _ rfl hD h63 _ _ _ rfl rfl hkey _ [] (plainElem_int Tryd.underlying3 hwf) ?_; intro w1 hown1 hgrow1; have HO1 := Lib.hid hown1; have HG1 := Lib.hid hgrow1; clear hown1 hgrow1)
          go_roundg (gk - 1)
          case measure => go_light; omega
          case rel =>
            go_light
            have hch : Chg (fun k => k = mb) wr w1 := (Chg.refl (fun k => k = mb) wr).grown HG1.out (fun k _ h => by simpa using h.symm)
            have hn := HN.out
            have hmbb : ∀ k, (Value.slice (some ⟨b, off, none⟩) bs.length cap0).ownBlock = some k → k < w.heap.size := fun k hk => Rd.blk HR.out (by omega) k hk
            refine ⟨s + 1, by omega, by go_num, Lib.hid (hC.out.chg' hch (by omega) (by omega) (by omega) (fun _ k hk => by have := hmbb k hk; omega)), Lib.hid (hch.owns hO.out fun k hk => by have := (hO.out.lt k hk).1; omega), Lib.hid ⟨_, HO1.out, HQ.out⟩,
              Lib.hid (hB.out.trans (hch.below hB.out.size (fun k hk => by omega)))⟩
    · have hdr : sub bs beg bs.length = bs.drop beg := by unfold sub; rw [List.take_of_length_le (by simp)]
      have hP := plain_any pb po w.heap.size base beg bs.length (.slice ao cs.length cap) (.slice ao0 bs.length cap0) cs bs wr (by omega) (Nat.le_refl _) (by omega) hC.out hO.out
      rw [hdr, ← pk_end (a := a) h4, heq.out] at hP
      have HP := Lib.hid hP
      have HI : Hid (∀ k, LzS pb po base k → w.heap.size ≤ k) := Lib.hid (fun k hk => by have := HN.out; unfold LzS at hk; omega)
      clear hP hM hO heq
      go_wp2_with fail
      refine HP.out.mono ?_
      rintro e w5 ⟨rfl, ao5, cap5, hC5, hO5, hch5⟩
      have HO5 := Lib.hid hO5
      have HB5 := Lib.hid (hB.out.trans (hch5.below hB.out.size HI.out))
      have d1 := hC5.c1
      clear hC5 hO5 hch5 c0 c1 c2 HP
      go_wp2_with fail
      go_ret
      exact ⟨ao5, cap5, rfl, HO5.out.mono (by have := HN.out; omega), HB5.out⟩
end Go.Proofs.YthcgalpabjjkoaaDoor

/- XLzRefPlain: The document's chains of places, in plain words; that they lead to the latest place. -/
namespace Go.Proofs.YthcgalpabjjkoaaDoor
set_option linter.unusedVariables false

/-- The number of the two bytes at a place. -/
def pv (b : List UInt8) (i : Nat) : Nat := (b.getD i 0).toNat * 256 + (b.getD (i + 1) 0).toNat
/-- One more than the latest of the places below s with that number; 0: there is none. -/
def lzlst (b : List UInt8) (x : Nat) : Nat → Nat
  | 0 => 0
  | s + 1 => if pv b s = x then s + 1 else lzlst b x s

theorem pv_lt (b : List UInt8) (i : Nat) : pv b i < 65536 := by
  have h1 := (b.getD i 0).toNat_lt
  have h2 := (b.getD (i + 1) 0).toNat_lt
  unfold pv
  omega

theorem lst_le (b : List UInt8) (x : Nat) : ∀ s, lzlst b x s ≤ s
  | 0 => Nat.le_refl _
  | s + 1 => by
    unfold lzlst
    split
    · exact Nat.le_refl _
    · have := lst_le b x s; omega
theorem lst_pv (b : List UInt8) (x : Nat) : ∀ s, 0 < lzlst b x s → pv b (lzlst b x s - 1) = x
  | 0, h => by simp [lzlst] at h
  | s + 1, h => by
    unfold lzlst at h ⊢
    split
    · simpa using (by assumption : pv b s = x)
    · rename_i hn
      rw [if_neg hn] at h
      exact lst_pv b x s h
theorem lst_above (b : List UInt8) (x : Nat) : ∀ s q, lzlst b x s ≤ q → q < s → pv b q ≠ x
  | 0, q, h1, h2 => by omega
  | s + 1, q, h1, h2 => by
    unfold lzlst at h1
    split at h1
    · omega
    · rename_i hn
      by_cases hq : q = s
      · subst hq; exact hn
      · exact lst_above b x s q h1 (by omega)

theorem at4_iff (b : List UInt8) (p a : Nat) (hp : p + 4 ≤ b.length) (ha : a + 4 ≤ b.length) : at4 b p = at4 b a ↔ pv b p = pv b a ∧ b.getD (p + 2) 0 = b.getD (a + 2) 0 ∧ b.getD (p + 3) 0 = b.getD (a + 3) 0 := by
  have key : ∀ i, i + 4 ≤ b.length → at4 b i = [b.getD i 0, b.getD (i + 1) 0, b.getD (i + 2) 0, b.getD (i + 3) 0] := by
    intro i h
    unfold at4
    apply List.ext_getElem
    · simp; omega
    · intro k h1 h2
      have h3 : k < 4 := by simpa using h2
      rw [List.getElem_take, List.getElem_drop]
      match k, h3 with
      | 0, _ => simp [show i < b.length by omega]
      | 1, _ => simp [show i + 1 < b.length by omega]
      | 2, _ => simp [show i + 2 < b.length by omega]
      | 3, _ => simp [show i + 3 < b.length by omega]
  rw [key p hp, key a ha]
  unfold pv
  have a1 := (b.getD p 0).toNat_lt
  have a2 := (b.getD (p + 1) 0).toNat_lt
  have a3 := (b.getD a 0).toNat_lt
  have a4 := (b.getD (a + 1) 0).toNat_lt
  constructor
  · intro h
    simp only [List.cons.injEq] at h
    obtain ⟨e0, e1, e2, e3, _⟩ := h
    rw [e0, e1]
    exact ⟨rfl, e2, e3⟩
  · rintro ⟨h0, h2, h3⟩
    have e0 : b.getD p 0 = b.getD a 0 := UInt8.toNat_inj.1 (by omega)
    have e1 : b.getD (p + 1) 0 = b.getD (a + 1) 0 := UInt8.toNat_inj.1 (by omega)
    rw [e0, e1, h2, h3]

/-- What place() gives, as a number: the latest place, or -1. -/
def placeI (b : List UInt8) (a : Nat) : Int := if a + 4 ≤ b.length then (match near b a with | some p => (p : Int) | none => -1) else -1

/-- The chain has come to s: none of the places from s on has the four bytes. -/
def Chained (b : List UInt8) (a s : Nat) : Prop := s ≤ a ∧ ∀ q, s ≤ q → q < a → at4 b q ≠ at4 b a

theorem chained_none {b : List UInt8} {a s : Nat} (ha : a + 4 ≤ b.length) (h : Chained b a s) (h0 : lzlst b (pv b a) s = 0) : placeI b a = -1 := by
  have : lastB b a a = none := lastB_isNone b a a fun q hq => by
    by_cases h1 : s ≤ q
    · exact h.2 q h1 hq
    · intro e
      exact lst_above b (pv b a) s q (by omega) (by omega) ((at4_iff b q a (by omega) ha).1 e).1
  unfold placeI
  rw [if_pos ha]
  simp [near, this]

theorem chained_far {b : List UInt8} {a s : Nat} (ha : a + 4 ≤ b.length) (h : Chained b a s) (h0 : 0 < lzlst b (pv b a) s) (hf : 65535 < a - (lzlst b (pv b a) s - 1)) : placeI b a = -1 := by
  unfold placeI
  rw [if_pos ha]
  cases hl : lastB b a a with
  | none => simp [near, hl]
  | some p =>
    have h1 := lastB_lt b a a p hl
    have h2 : p < lzlst b (pv b a) s := by
      by_cases h3 : s ≤ p
      · exact absurd h1.2 (h.2 p h3 h1.1)
      · by_cases h4 : lzlst b (pv b a) s ≤ p
        · exact absurd ((at4_iff b p a (by omega) ha).1 h1.2).1 (lst_above b (pv b a) s p h4 (by omega))
        · omega
    have h5 : ¬ a - p ≤ 65535 := by omega
    have hn : near b a = none := by unfold near; rw [hl]; simp only [Option.bind_some]; rw [if_neg h5]
    rw [hn]

theorem chained_here {b : List UInt8} {a s p : Nat} (ha : a + 4 ≤ b.length) (h : Chained b a s) (h0 : lzlst b (pv b a) s = p + 1) (hf : a - p ≤ 65535) (e2 : b.getD (p + 2) 0 = b.getD (a + 2) 0) (e3 : b.getD (p + 3) 0 = b.getD (a + 3) 0) : placeI b a = p := by
  have hle := lst_le b (pv b a) s
  have hsa := h.1
  have hpv := lst_pv b (pv b a) s (by omega)
  rw [h0, Nat.add_sub_cancel] at hpv
  have hp : at4 b p = at4 b a := (at4_iff b p a (by omega) ha).2 ⟨hpv, e2, e3⟩
  have : lastB b a a = some p := lastB_is b a a p (by omega) hp fun q hq1 hq2 => by
    by_cases h1 : s ≤ q
    · exact h.2 q h1 hq2
    · intro e
      exact lst_above b (pv b a) s q (by omega) (by omega) ((at4_iff b q a (by omega) ha).1 e).1
  have hn : near b a = some p := by unfold near; rw [this]; simp only [Option.bind_some]; rw [if_pos hf]
  unfold placeI
  rw [if_pos ha, hn]

theorem chained_next {b : List UInt8} {a s p : Nat} (ha : a + 4 ≤ b.length) (h : Chained b a s) (h0 : lzlst b (pv b a) s = p + 1) (hne : ¬ (b.getD (p + 2) 0 = b.getD (a + 2) 0 ∧ b.getD (p + 3) 0 = b.getD (a + 3) 0)) : Chained b a p ∧ pv b p = pv b a ∧ p < s := by
  have hle := lst_le b (pv b a) s
  have hsa := h.1
  have hpv := lst_pv b (pv b a) s (by omega)
  rw [h0, Nat.add_sub_cancel] at hpv
  refine ⟨⟨by omega, fun q hq1 hq2 => ?_⟩, hpv, by omega⟩
  by_cases h1 : s ≤ q
  · exact h.2 q h1 hq2
  · intro e
    by_cases hqp : q = p
    · subst hqp
      exact hne ((at4_iff b q a (by omega) ha).1 e).2
    · exact lst_above b (pv b a) s q (by omega) (by omega) ((at4_iff b q a (by omega) ha).1 e).1

theorem chained_start (b : List UInt8) (a : Nat) : Chained b a a := ⟨Nat.le_refl _, fun q h1 h2 => by omega⟩

end Go.Proofs.YthcgalpabjjkoaaDoor

/- XLzChains: The contracts of gristref06.chains and place. -/
namespace Go.Proofs.YthcgalpabjjkoaaDoor
open Go.RowKit
set_option linter.unusedVariables false

def liV (x : Int) : Value := .int .i64 x
/-- The table of the latest places, when the places below s are known; the chains of the places below s. -/
def tab (b : List UInt8) (s : Nat) : List Value := (List.range 65536).map fun x => liV (lzlst b x s)
def chn (b : List UInt8) (n s : Nat) : List Value := (List.range n).map fun j => liV (if j < s then (lzlst b (pv b j) j : Int) - 1 else 0)

theorem infoInt : (Tryd.prog.info? 3).map (fun i => (i.zero, i.size, i.bytes)) = some (some (.int .i64 0), 1, 8) := by kernel_rfl

theorem int_zeros (n : Nat) : (madeCells (Value.int .i64 0).cells (n * 1)).toList = (List.range n).map fun _ => liV 0 := by
  apply List.ext_getElem?
  intro i
  simp [madeCells, Value.cells, liV, Nat.mod_one]

theorem rowAt {w : World} {base e : TypeId} {v : Value} {n : Nat} {xs : List Value} (h : w.ownsRow base e 1 v n xs) (k : Nat) (hk : k < n) :
    ∃ g cap, v = .slice (some ⟨g, 0, none⟩) n cap ∧ base ≤ g ∧ g < w.heap.size ∧ w.cell? ⟨g, k, none⟩ = xs[k]? ∧ w.frozen? ⟨g, k, none⟩ = false ∧ ∀ z : Value, (w.setCell ⟨g, k, none⟩ z).ownsRow base e 1 v n (xs.set k z) := by
  have h0 := h
  rcases h.2 with ⟨_, h'⟩ | ⟨g, cap, cur, rfl, hb, _⟩
  · omega
  · refine ⟨g, cap, rfl, hb, (h.lt g rfl).2, ?_, h.frozenAt k, fun z => ?_⟩
    · rw [h.cellAt k (by omega)]
    · exact (h.stored k z).1

theorem tab_set (b : List UInt8) (s : Nat) : (tab b s).set (pv b s) (liV ((s : Int) + 1)) = tab b (s + 1) := by
  apply List.ext_getElem?
  intro i
  simp only [tab, List.getElem?_set, List.getElem?_map, List.length_map, List.length_range]
  have hp := pv_lt b s
  by_cases h1 : pv b s = i
  · subst h1
    rw [if_pos rfl, if_pos hp, List.getElem?_range hp]
    simp [lzlst, liV]
  · rw [if_neg h1]
    by_cases h2 : i < 65536
    · rw [List.getElem?_range h2]
      simp [lzlst, h1]
    · simp [List.getElem?_eq_none (show (List.range 65536).length ≤ i by simp; omega)]

theorem tab_at (b : List UInt8) (s x : Nat) (hx : x < 65536) : (tab b s)[x]? = some (liV (lzlst b x s)) := by
  simp [tab, List.getElem?_range hx]

theorem chn_at (b : List UInt8) (n s j : Nat) (hj : j < n) : (chn b n s)[j]? = some (liV (if j < s then (lzlst b (pv b j) j : Int) - 1 else 0)) := by
  simp [chn, List.getElem?_range hj]

theorem chn_set (b : List UInt8) (n s : Nat) (hs : s < n) : (chn b n s).set s (liV ((lzlst b (pv b s) s : Int) - 1)) = chn b n (s + 1) := by
  apply List.ext_getElem?
  intro i
  simp only [chn, List.getElem?_set, List.getElem?_map, List.length_map, List.length_range]
  by_cases h1 : s = i
  · subst h1
    rw [if_pos rfl, if_pos hs, List.getElem?_range hs]
    simp
  · rw [if_neg h1]
    by_cases h2 : i < n
    · rw [List.getElem?_range h2]
      have : (i < s + 1) = (i < s) := by apply propext; omega
      simp [this]
    · simp [List.getElem?_eq_none (show (List.range n).length ≤ i by simp; omega)]

theorem i64_pair (x y : Nat) (hx : x < 256) (hy : y < 256) : bits .or .i64 ((x : Int) * 256) (y : Int) = ((x * 256 + y : Nat) : Int) := by
  have hor : x * 256 ||| y = x * 256 + y := by
    have := Nat.two_pow_add_eq_or_of_lt (show y < 2 ^ 8 by omega) x
    rw [show x * 256 = 2 ^ 8 * x by omega]
    exact this.symm
  have e : ((x : Int) * 256) = ((x * 256 : Nat) : Int) := by simp
  show IntKind.i64.wrap ((BitVec.ofInt 64 ((x : Int) * 256) ||| BitVec.ofInt 64 (y : Int)).toNat : Int) = _
  rw [e, BitVec.toNat_or, ofInt_u64 _ (by omega), ofInt_u64 _ (by omega), hor]
  exact IntWalk.i64_in _ (by omega)

set_option maxHeartbeats 2000000 in
set_option maxRecDepth 100000 in
theorem chains_any (bs : List UInt8) (v : Value) (w : World) (hn : bs.length ≤ 4194304) (hr : Rd w v bs) :
    Calls Tryd.prog 84 #[v] w fun e w' => ∃ ao cap, e = .returned (.slice ao bs.length cap) ∧ RdV w' 1 (.slice ao bs.length cap) bs.length (chn bs bs.length (bs.length - 1)) ∧ Below w.heap.size w w' := by
  obtain ⟨i0, hi0, hz0, hz1, hz2⟩ := info_parts infoInt
  obtain ⟨ao0, cap0, rfl, hnc, hcm⟩ := RdV.shape hr
  unfold maxLen at hcm
  go_enter Tryd.func84, Tryd.ntmps84
  go_upto_region 2 with (at_make; refine wpList_make_full _ rfl _ _ 117 rfl w.heap.size 3 i0 (.int .i64 0) 1 Tryd.underlying117 hi0 hz0 hz1 _ _ _ _ 65536 rfl rfl rfl rfl (by rw [hz2]; omega) (by unfold maxLen; omega) (Nat.le_refl _) ?_; intro w2 hown2 hgrow2; rw [int_zeros] at hown2; have HO2 := Lib.hid hown2; have HG2 := Lib.hid hgrow2; clear hown2 hgrow2)
  go_wp2_with (at_make; refine wpList_make_full _ rfl _ _ 117 rfl w2.heap.size 3 i0 (.int .i64 0) 1 Tryd.underlying117 hi0 hz0 hz1 _ _ _ _ bs.length rfl rfl rfl rfl (by rw [hz2]; omega) (by unfold maxLen; omega) (Nat.le_refl _) ?_; intro w3 hown3 hgrow3; rw [int_zeros] at hown3; have HO3 := Lib.hid hown3; have HG3 := Lib.hid hgrow3; clear hown3 hgrow3)
  have hc3 : Chg (fun _ => False) w2 w3 := (Chg.refl (fun _ => False) w2).grown HG3.out (fun k _ h => by cases h)
  have hc2 : Chg (fun _ => False) w w2 := (Chg.refl (fun _ => False) w).grown HG2.out (fun k _ h => by cases h)
  have HL3 := Lib.hid (hc3.owns HO2.out (fun _ _ h => h))
  have HB3 := Lib.hid ((hc2.trans hc3).below (Nat.le_refl _) (fun _ h => h.elim))
  have hg1 : w.heap.size < w2.heap.size := (HO2.out.lt w.heap.size rfl).2
  obtain ⟨B2, hB2⟩ : ∃ B2, B2 = w2.heap.size := ⟨_, rfl⟩
  rw [← hB2] at HO3 hg1 ⊢
  clear HO2 HG2 HG3 hc3 hc2 hi0 hz0 hz1 hz2 hB2
  go_loopg [5] bs.length (fun m s5 wr => ∃ i : Nat, i + m = bs.length ∧ i ≤ bs.length - 1 ∧ s5 = .int .i64 (i : Int) ∧ Hid (wr.ownsRow w.heap.size 3 1 (.slice (some ⟨w.heap.size, 0, none⟩) 65536 65536) 65536 (tab bs i)) ∧
    Hid (wr.ownsRow B2 3 1 (.slice (some ⟨B2, 0, none⟩) bs.length bs.length) bs.length (chn bs bs.length i)) ∧ Hid (Below w.heap.size w wr))
  case atStart => exact ⟨0, by omega, by omega, rfl, Lib.hid (by have := HL3.out; unfold tab; simpa [lzlst] using this), Lib.hid (by have := HO3.out; unfold chn; simpa using this), HB3⟩
  case round =>
    clear HL3 HO3 HB3
    obtain ⟨i, hm, hi, rfl, hL, hO, hB⟩ := hrel
    by_cases h0 : i + 1 < bs.length
    · have hrd : Rd wr (.slice ao0 bs.length cap0) bs := RdV.below hr.v hB.out
      obtain ⟨b, off, bcap, hbv, hbn, hbm, hbl, hcell⟩ := RdV.some hrd.v (by omega) (by decide)
      simp only [Value.slice.injEq, true_and] at hbv
      obtain ⟨rfl, rfl⟩ := hbv
      have hbw : b < w.heap.size := Rd.blk hr (by omega) b rfl
      have e0 : wr.cell? ⟨b, off + i, none⟩ = some (.int .u8 (bs[i].toNat : Int)) := hcell i _ (by simp [show i < bs.length by omega, bV])
      have e1 : wr.cell? ⟨b, off + (i + 1), none⟩ = some (.int .u8 (bs[i + 1].toNat : Int)) := hcell (i + 1) _ (by simp [h0, bV])
      have hpv : pv bs i = bs[i].toNat * 256 + bs[i + 1].toNat := by simp [pv, show i < bs.length by omega, h0]
      have hw1 : IntKind.i64.wrap ((i : Int) + 1) = (i : Int) + 1 := IntWalk.i64_in _ (by omega)
      have t1 : ((i : Int) + 1).toNat = i + 1 := by omega
      have t2 : (0 : Int) ≤ (i : Int) + 1 := by omega
      have t3 : (i : Int) + 1 < (bs.length : Int) := by omega
      have hx := bs[i].toNat_lt
      have hy := bs[i + 1].toNat_lt
      have HPV := Lib.hid hpv
      generalize bs[i].toNat = x at *
      generalize bs[i + 1].toNat = y at *
      clear hpv hcell hrd
      go_upto_region 6 with fail
      go_quiet (fail)
      rw [i64_pair x y hx hy, ← HPV.out]
      have hL1 : Hid ((wr.drewN nq).ownsRow w.heap.size 3 1 (.slice (some ⟨w.heap.size, 0, none⟩) 65536 65536) 65536 (tab bs i)) := hL
      have hO1 : Hid ((wr.drewN nq).ownsRow B2 3 1 (.slice (some ⟨B2, 0, none⟩) bs.length bs.length) bs.length (chn bs bs.length i)) := hO
      have hB1 : Hid (Below w.heap.size w (wr.drewN nq)) := Lib.hid ⟨hB.out.os, hB.out.tape, hB.out.output, hB.out.size, hB.out.block⟩
      clear hL hO hB e0 e1 HPV hw1 t1 t2 t3
      generalize wr.drewN nq = w1 at *
      have hpl := pv_lt bs i
      obtain ⟨g, gc, he, hg1', hg2, hc, hf, hset⟩ := rowAt hL1.out (pv bs i) hpl
      simp only [Value.slice.injEq, Option.some.injEq, Addr.mk.injEq, true_and, and_true] at he
      obtain ⟨he1, he2⟩ := he
      subst he1
      clear he2
      rw [tab_at bs i _ hpl] at hc
      obtain ⟨g2, gc2, he, hg3', hg4, hc2, hf2, hset2⟩ := rowAt hO1.out i (by omega)
      simp only [Value.slice.injEq, Option.some.injEq, Addr.mk.injEq, true_and, and_true] at he
      obtain ⟨he1, he2⟩ := he
      subst he1
      clear he2
      have hs2 := hset2 (liV ((lzlst bs (pv bs i) i : Int) - 1))
      rw [chn_set bs _ i (by omega)] at hs2
      rw [chn_at bs _ i i (by omega)] at hc2
      have hll := lst_le bs (pv bs i) i
      unfold liV at hc hs2
      obtain ⟨u2, hu2⟩ : ∃ u, w1.cell? ⟨B2, i, none⟩ = some u := ⟨_, hc2⟩
      have HS2 := Lib.hid hs2
      have hne : w.heap.size ≠ B2 := by omega
      have HT := Lib.hid (tab_set bs i)
      have HPL := Lib.hid hpl
      clear hset hset2 hs2 hO1 hc2
      generalize pv bs i = P at *
      generalize lzlst bs P i = L at *
      go_wp2_with fail
      go_roundg (gk - 1)
      case measure => go_light; omega
      case rel =>
        go_light
        have hL' := ((Chg.refl (fun k => k = B2) w1).setCell (p := ⟨B2, i, none⟩) (fun _ => rfl) (.int .i64 ((L : Int) - 1))).owns hL1.out (fun k hk h => by simp [Value.ownBlock] at hk; omega)
        obtain ⟨g, gc, he, _, _, _, _, hset⟩ := rowAt hL' P HPL.out
        simp only [Value.slice.injEq, Option.some.injEq, Addr.mk.injEq, true_and, and_true] at he
        obtain ⟨he1, he2⟩ := he
        subst he1
        have hs := hset (liV ((i : Int) + 1))
        rw [HT.out] at hs
        have hO' := ((Chg.refl (fun k => k = w.heap.size) (w1.setCell ⟨B2, i, none⟩ (.int .i64 ((L : Int) - 1)))).setCell (p := ⟨w.heap.size, P, none⟩) (fun _ => rfl) (.int .i64 ((i : Int) + 1))).owns HS2.out (fun k hk h => by simp [Value.ownBlock] at hk; omega)
        exact ⟨i + 1, by omega, by omega, by go_num, Lib.hid hs, Lib.hid hO', Lib.hid ((hB1.out.setCell (by simp; omega) _).setCell (by simp) _)⟩
    · have he : Hid (chn bs bs.length i = chn bs bs.length (bs.length - 1)) := Lib.hid (by rw [show i = bs.length - 1 by omega])
      go_wp2_with fail
      go_ret
      exact ⟨_, _, rfl, by rw [← he.out]; exact RdV.ofOwns hO.out, hB.out⟩

end Go.Proofs.YthcgalpabjjkoaaDoor

/- XLzPlace: The contract of gristref06.place. -/
namespace Go.Proofs.YthcgalpabjjkoaaDoor
open Go.RowKit
set_option linter.unusedVariables false

theorem dec_u8 {x y : UInt8} (h : ¬ x = y) : decide ((x.toNat : Int) = (y.toNat : Int)) = false := by
  refine decide_eq_false fun e => h ?_
  have : x.toNat = y.toNat := by omega
  exact UInt8.toNat_inj.1 this
theorem beq_u8 {x y : UInt8} (h : ¬ x = y) : ((x.toNat : Int) == (y.toNat : Int)) = false := by
  have := dec_u8 h
  simpa using this

set_option maxHeartbeats 2000000 in
set_option maxRecDepth 100000 in
theorem place_any (bs : List UInt8) (v cv : Value) (a : Nat) (w : World) (hn : bs.length ≤ 4194304) (hr : Rd w v bs) (hc : RdV w 1 cv bs.length (chn bs bs.length (bs.length - 1))) (ha : a < bs.length) :
    Calls Tryd.prog 85 #[v, cv, .int .i64 (a : Int)] w fun e w' => e = .returned (.int .i64 (placeI bs a)) ∧ ∃ q, w' = w.drewN q := by
  obtain ⟨b, off, cap0, rfl, hbn, hbm, hbl, hcell⟩ := RdV.some hr.v (by omega) (by decide)
  obtain ⟨c, coff, ccap, rfl, hcn, hcm, hcl, hccell⟩ := RdV.some hc (by omega) (by decide)
  unfold maxLen at hbm hcm
  have hby : ∀ k, k < bs.length → w.cell? ⟨b, off + k, none⟩ = some (.int .u8 ((bs.getD k 0).toNat : Int)) := fun k hk => hcell k _ (by simp [hk, bV])
  have hch : ∀ k, k < bs.length - 1 → w.cell? ⟨c, coff + k, none⟩ = some (.int .i64 ((lzlst bs (pv bs k) k : Int) - 1)) := fun k hk => hccell k _ (by rw [chn_at _ _ _ _ (by omega), if_pos hk]; rfl)
  clear hcell hccell
  go_enter Tryd.func85, Tryd.ntmps85
  by_cases h4 : a + 4 ≤ bs.length
  · have e0 := hch a (by omega)
    go_wp2_with fail
    go_loopg [7] a (fun m s7 wr => Chained bs a m ∧ s7 = .int .i64 ((lzlst bs (pv bs a) m : Int) - 1) ∧ ∃ q, wr = w.drewN q)
    case atStart => exact ⟨chained_start bs a, rfl, 0, rfl⟩
    case round =>
      obtain ⟨hch1, rfl, q, rfl⟩ := hrel
      have hle := lst_le bs (pv bs a) gk
      have hga := hch1.1
      by_cases h0 : lzlst bs (pv bs a) gk = 0
      · have HR := Lib.hid (chained_none h4 hch1 h0)
        rw [h0]
        have hd : decide ((0 : Int) ≤ ((0 : Nat) : Int) - 1) = false := by decide
        clear hch1 hle h0
        go_wp2_with fail
        go_ret
        exact ⟨by rw [HR.out]; rfl, q, rfl⟩
      · obtain ⟨p, hp⟩ : ∃ p, lzlst bs (pv bs a) gk = p + 1 := ⟨lzlst bs (pv bs a) gk - 1, by omega⟩
        by_cases hf : a - p ≤ 65535
        · have H2 := fun h2 h3 => chained_here h4 hch1 hp hf h2 h3
          have H3 := fun h => chained_next h4 hch1 hp h
          have hpg : p < gk := by omega
          rw [hp, show (((p + 1 : Nat) : Int) - 1) = (p : Int) by omega]
          have e1 := hby (p + 2) (by omega)
          have e2 := hby (a + 2) (by omega)
          have e3 := hby (p + 3) (by omega)
          have e4 := hby (a + 3) (by omega)
          have hw1 : IntKind.i64.wrap ((p : Int) + 2) = (p : Int) + 2 := IntWalk.i64_in _ (by omega)
          have hw2 : IntKind.i64.wrap ((a : Int) + 2) = (a : Int) + 2 := IntWalk.i64_in _ (by omega)
          have hw3 : IntKind.i64.wrap ((p : Int) + 3) = (p : Int) + 3 := IntWalk.i64_in _ (by omega)
          have hw4 : IntKind.i64.wrap ((a : Int) + 3) = (a : Int) + 3 := IntWalk.i64_in _ (by omega)
          have t1 : ((p : Int) + 2).toNat = p + 2 := by omega
          have t2 : ((a : Int) + 2).toNat = a + 2 := by omega
          have t3 : ((p : Int) + 3).toNat = p + 3 := by omega
          have t4 : ((a : Int) + 3).toNat = a + 3 := by omega
          have s1 : (0 : Int) ≤ (p : Int) + 2 := by omega
          have s2 : (0 : Int) ≤ (a : Int) + 2 := by omega
          have s3 : (0 : Int) ≤ (p : Int) + 3 := by omega
          have s4 : (0 : Int) ≤ (a : Int) + 3 := by omega
          have r1 : (p : Int) + 2 < (bs.length : Int) := by omega
          have r2 : (a : Int) + 2 < (bs.length : Int) := by omega
          have r3 : (p : Int) + 3 < (bs.length : Int) := by omega
          have r4 : (a : Int) + 3 < (bs.length : Int) := by omega
          have hfI : decide ((a : Int) - (p : Int) ≤ 65535) = true := decide_eq_true (by omega)
          have f0 := hch p (by omega)
          have hpn : (p : Int) < (bs.length : Int) := by omega
          have HPA := Lib.hid (⟨hpg, hga, hn, ha⟩ : p < gk ∧ gk ≤ a ∧ bs.length ≤ 4194304 ∧ a < bs.length)
          generalize bs.getD (p + 2) 0 = x1 at *
          generalize bs.getD (a + 2) 0 = x2 at *
          generalize bs.getD (p + 3) 0 = x3 at *
          generalize bs.getD (a + 3) 0 = x4 at *
          clear hch1 hle h0 hp hf hch hby
          by_cases k1 : x1 = x2
          case' neg =>
            have d1 := dec_u8 k1
            have d2 := beq_u8 k1
            have HN := Lib.hid (H3 (fun h => k1 h.1))
            clear H2 H3
            go_upto_region 6 with fail
            go_quiet (fail)
          case' pos =>
            subst k1
            by_cases k2 : x3 = x4
            case' neg =>
              have d1 := dec_u8 k2
              have d2 := beq_u8 k2
              have HN := Lib.hid (H3 (fun h => k2 h.2))
              clear H2 H3
              go_upto_region 6 with fail
              go_quiet (fail)
            case' pos =>
              subst k2
              have HN := Lib.hid (H2 rfl rfl)
              clear H2 H3
              go_upto_region 6 with fail
              go_quiet (fail)
              go_wp2_with fail
              go_ret
              exact ⟨by rw [HN.out]; rfl, q + nq, by simp⟩
          all_goals go_wp2_with fail
          all_goals go_roundg p
          all_goals (try (case measure => go_light; exact HPA.out.1))
          all_goals (try (case rel =>
            go_light
            exact ⟨HN.out.1, by rw [HN.out.2.1], _, rfl⟩))
        · have HR := Lib.hid (chained_far h4 hch1 (by omega) (by rw [hp]; omega))
          rw [hp, show (((p + 1 : Nat) : Int) - 1) = (p : Int) by omega]
          have hfI : decide ((a : Int) - (p : Int) ≤ 65535) = false := decide_eq_false (by omega)
          have HPA := Lib.hid (⟨hga, hn, ha⟩ : gk ≤ a ∧ bs.length ≤ 4194304 ∧ a < bs.length)
          clear hch1 h0 hch hby
          go_wp2_with fail
          go_ret
          exact ⟨by rw [HR.out]; rfl, q, rfl⟩
  · have HR : Hid (placeI bs a = -1) := Lib.hid (by unfold placeI; rw [if_neg h4])
    go_wp2_with fail
    go_ret
    exact ⟨by rw [HR.out]; rfl, 0, rfl⟩

end Go.Proofs.YthcgalpabjjkoaaDoor

/- XLzRPack: The contract of gristref06.Pack. -/
namespace Go.Proofs.YthcgalpabjjkoaaDoor
open Go.RowKit
set_option linter.unusedVariables false

theorem sub_snoc (bs : List UInt8) (beg a : Nat) (h1 : beg ≤ a) (h2 : a < bs.length) : sub bs beg (a + 1) = sub bs beg a ++ [bs[a]] := by
  unfold sub
  rw [show a + 1 - beg = (a - beg) + 1 by omega, List.take_succ_eq_append_getElem (by simp; omega)]
  simp [show beg + (a - beg) = a by omega]

theorem place_skip {bs : List UInt8} {a beg : Nat} (h : placeI bs a < 0) : pk bs a beg = pk bs (a + 1) beg := by
  unfold placeI at h
  by_cases h4 : a + 4 ≤ bs.length
  · rw [if_pos h4] at h
    cases hn : near bs a with
    | none => exact pk_skip h4 hn
    | some p => rw [hn] at h; simp at h; omega
  · rw [pk_end h4, pk_end (by omega)]

theorem place_take {bs : List UInt8} {a : Nat} (h : ¬ placeI bs a < 0) : a + 4 ≤ bs.length ∧ ∃ p, near bs a = some p ∧ placeI bs a = (p : Int) := by
  unfold placeI at h ⊢
  by_cases h4 : a + 4 ≤ bs.length
  · rw [if_pos h4] at h ⊢
    cases hn : near bs a with
    | none => rw [hn] at h; simp at h
    | some p => exact ⟨h4, p, rfl, rfl⟩
  · rw [if_neg h4] at h; simp at h

set_option maxHeartbeats 800000 in
set_option maxRecDepth 100000 in
theorem lzrpack_any (bs : List UInt8) (v : Value) (w : World) (hn : bs.length ≤ 4194304) (hr : Rd w v bs) :
    Calls Tryd.prog 68 #[v] w fun e w' => ∃ ao cap, e = .returned (.slice ao (pk bs 0 0).length cap) ∧ Own w' w.heap.size (.slice ao (pk bs 0 0).length cap) (pk bs 0 0) ∧ Below w.heap.size w w' := by
  obtain ⟨ao0, cap0, rfl, hnc, hcm⟩ := RdV.shape hr
  unfold maxLen at hcm
  go_enter Tryd.func68, Tryd.ntmps68
  go_wp2_with fail
  refine (chains_any bs _ w hn hr).mono ?_
  rintro e w1 ⟨aoc, capc, rfl, hcr, hb1⟩
  have HCR := Lib.hid hcr
  have HB1 := Lib.hid hb1
  have HR1 := Lib.hid (show Rd w1 (.slice ao0 bs.length cap0) bs from RdV.below hr.v hb1)
  have HRB := Lib.hid (fun (h : 0 < bs.length) k hk => Nat.lt_of_lt_of_le (Rd.blk hr h k hk) hb1.size)
  obtain ⟨B, hB⟩ : ∃ B, B = w1.heap.size := ⟨_, rfl⟩
  have HBs := Lib.hid (⟨hB, hb1.size⟩ : B = w1.heap.size ∧ w.heap.size ≤ w1.heap.size)
  clear hcr hb1 hB hr
  go_wp2_with fail
  go_loopg [3, 4, 6] bs.length (fun m s3 s4 s6 wr => ∃ (a beg : Nat) (cs : List UInt8) (ao : Option Addr) (cap : Nat) (ap : Option Addr) (cp : Nat) (ps : List UInt8), Hid (ps = sub bs beg a) ∧ a + m = bs.length ∧ beg ≤ a ∧ s3 = .slice ao cs.length cap ∧ s4 = .slice ap ps.length cp ∧ s6 = .int .i64 (a : Int) ∧ cs.length ≤ 2 * beg ∧
    Hid (cs ++ pk bs a beg = pk bs 0 0) ∧ Hid (Own wr B (.slice ao cs.length cap) cs) ∧ Hid (Own wr B (.slice ap ps.length cp) ps) ∧ Hid (∀ k, (Value.slice ap ps.length cp).ownBlock = some k → (Value.slice ao cs.length cap).ownBlock ≠ some k) ∧ Hid (Below B w1 wr))
  case atStart => exact ⟨0, 0, [], none, 0, none, 0, [], Lib.hid (sub_self _ _).symm, by omega, Nat.le_refl _, rfl, rfl, rfl, by simp, Lib.hid rfl, Lib.hid (Own.nil _ _), Lib.hid (Own.nil _ _), Lib.hid (fun k h => by cases h), Lib.hid (Below.refl _ _)⟩
  case round =>
    obtain ⟨a, beg, cs, ao, cap, ap, cp, ps, hps, hm, hbeg, rfl, rfl, rfl, hlen, heq, hO, hP, hD, hB⟩ := hrel
    have hbw : Below w1.heap.size w1 wr := by have := HBs.out.1; rw [← this]; exact hB.out
    have hrw : Rd wr (.slice ao0 bs.length cap0) bs := RdV.below HR1.out.v hbw
    have hcw := HCR.out.below hbw
    have hBw : B ≤ wr.heap.size := by have := HBs.out.1; have := hB.out.size; omega
    by_cases h0 : gk = 0
    · obtain rfl : a = bs.length := by omega
      have hsl : ps = bs.drop beg := by rw [hps.out]; unfold sub; rw [List.take_of_length_le (by simp)]
      have hpl : ps.length ≤ bs.length := by rw [hsl]; simp
      have hF := rflush_any _ _ cs ps B wr hBw hO.out hP.out.rd hD.out (by omega)
      have HEQ : Hid (cs ++ flush ps = pk bs 0 0) := Lib.hid (by rw [hsl, ← pk_end (a := bs.length) (by omega)]; exact heq.out)
      have HF := Lib.hid hF
      have HOl := Lib.hid (fun k hk => (hO.out.lt k hk).1)
      clear hF hm hO hP hD heq hrw hcw hsl
      have hBw' := Lib.hid hBw
      go_wp2_with fail
      refine HF.out.mono ?_
      rintro e w5 ⟨ao5, cap5, rfl, hadd⟩
      have HA := Lib.hid hadd
      clear hadd HF
      generalize cs ++ flush ps = R at *
      go_wp2_with fail
      go_ret
      have hR := HEQ.out
      subst hR
      exact ⟨ao5, cap5, rfl, Own.mono HA.out.owns (by have := HBs.out; omega), HB1.out.trans ((hB.out.trans (HA.out.below hBw'.out HOl.out)).mono (by have := HBs.out; omega))⟩
    · have hlt : a < bs.length := by omega
      have hPl := place_any bs _ _ a wr hn hrw hcw hlt
      have HPl := Lib.hid hPl
      have HM := Lib.hid (⟨hm, hbeg, hlen⟩ : a + gk = bs.length ∧ beg ≤ a ∧ cs.length ≤ 2 * beg)
      clear hPl hm hcw
      go_wp2_with fail
      refine HPl.out.mono ?_
      rintro e w5 ⟨rfl, q, rfl⟩
      clear HPl
      have hOd : Hid (Own (wr.drewN q) B (.slice ao cs.length cap) cs) := hO
      have hPd : Hid (Own (wr.drewN q) B (.slice ap ps.length cp) ps) := hP
      have hrd : Rd (wr.drewN q) (.slice ao0 bs.length cap0) bs := hrw
      have hBd : Hid (Below B w1 (wr.drewN q)) := Lib.hid ⟨hB.out.os, hB.out.tape, hB.out.output, hB.out.size, hB.out.block⟩
      have hBwd : B ≤ (wr.drewN q).heap.size := hBw
      clear hO hP hrw hB hBw hbw
      generalize wr.drewN q = wd at *
      obtain ⟨b, off, bcap, hbv, hbn, hbm, hbl, hcell⟩ := RdV.some hrd.v (by omega) (by decide)
      simp only [Value.slice.injEq, true_and] at hbv
      obtain ⟨rfl, rfl⟩ := hbv
      have hbB : b < B := by have := HBs.out; have := HRB.out (by omega) b rfl; omega
      have hby : ∀ k (hk : k < bs.length), wd.cell? ⟨b, off + k, none⟩ = some (.int .u8 (bs[k].toNat : Int)) := fun k hk => hcell k _ (by simp [hk, bV])
      clear hcell
      have hpsl : Hid (ps.length = a - beg) := Lib.hid (by rw [hps.out, sub_len _ _ _ (by omega)])
      have hpsb : ps.length ≤ a := by have := hpsl.out; omega
      by_cases hneg : placeI bs a < 0
      · have HK := Lib.hid (place_skip (beg := beg) hneg)
        have e0 := hby a hlt
        have hsn := Lib.hid (sub_snoc bs beg a HM.out.2.1 hlt)
        generalize placeI bs a = z at *
        generalize bs[a] = x at *
        have h63 : ps.length + 1 ≤ maxLen := by unfold maxLen; omega
        have hby1 : (ps.length + 1) * 1 ≤ 140737488355328 := by omega
        have hba : ∀ o, B ≤ (wd.alloc o).heap.size := fun o => by simp; omega
        clear hby
        go_wp2_with (at_builtin; refine wpList_append_rd _ rfl (.tmp 21) (.tmp 26) 33 rfl B 5 (.int .u8 0) 1 1 Tryd.underlying33 infoU8 rfl (by decide) (.slice ap ps.length cp) ps.length (ps.map bV) rfl (hPd.out.alloc _) (.slice (some ⟨wd.heap.size, 0, none⟩) 1 1) 1 [.int .u8 (x.toNat : Int)] rfl (RdV.one _ _ _) (one_one _ rfl) h63 hby1 (hba _) ?_; intro ao6 cap6 w6 hg6; have HG6 := Lib.hid hg6.ofAlloc; clear hg6)
        go_roundg (gk - 1)
        case measure => go_light; omega
        case rel =>
          go_light
          have hm := HM.out
          have hg := HG6.out
          rw [show ps.map bV ++ [.int .u8 (x.toNat : Int)] = (ps ++ [x]).map bV by simp [bV], show ps.length + 1 = (ps ++ [x]).length by simp] at hg
          rw [show ps.length + 1 = (ps ++ [x]).length by simp]
          refine ⟨a + 1, beg, cs, ao, cap, ao6, cap6, ps ++ [x], Lib.hid (by rw [hsn.out, hps.out]), by omega, by omega, rfl, rfl, by go_num, hm.2.2, Lib.hid (by rw [← HK.out]; exact heq.out), Lib.hid (hg.chg.owns hOd.out (fun k hk h => hD.out k h hk)), Lib.hid hg.owns, Lib.hid (fun k hk h => ?_), Lib.hid (hBd.out.trans (hg.below hBwd (fun k hk => (hPd.out.lt k hk).1)))⟩
          rcases hg.row k hk with h1 | h1
          · exact hD.out k h1 h
          · have := (hOd.out.lt k h).2; omega
      · obtain ⟨h4, p, hnear, hpI⟩ := place_take hneg
        obtain ⟨g0, hg0⟩ : ∃ g, g = gk := ⟨gk, rfl⟩
        have HM2 := Lib.hid (⟨hg0, HM.out.1⟩ : g0 = gk ∧ a + gk = bs.length)
        clear hg0
        rw [hpI]
        have hnl := near_lt hnear
        have HK := Lib.hid (pk_take (beg := beg) h4 hnear)
        have hF := rflush_any _ _ cs ps B wd hBwd hOd.out hPd.out.rd hD.out (by have := HM.out; have := hpsl.out; omega)
        have HF := Lib.hid hF
        have hp1 := hnl.1
        have HE := Lib.hid (⟨h4, hnl.1, hnl.2, hn, hpsl.out⟩ : a + 4 ≤ bs.length ∧ p < a ∧ a - p ≤ 65535 ∧ bs.length ≤ 4194304 ∧ ps.length = a - beg)
        clear hF hneg hpI hnear hnl
        go_wp2_with fail
        refine HF.out.mono ?_
        rintro e w6 ⟨ao6, cap6, rfl, hadd⟩
        obtain ⟨C, hC⟩ : ∃ C, C = cs ++ flush ps := ⟨_, rfl⟩
        rw [← hC] at hadd ⊢
        have HCC := Lib.hid hC
        clear hC
        have HA := Lib.hid hadd
        have hch := hadd.chg
        have hB6 := Lib.hid (hBd.out.trans (hadd.below hBwd (fun k hk => (hOd.out.lt k hk).1)))
        have hby6 : ∀ k (hk : k < bs.length), w6.cell? ⟨b, off + k, none⟩ = some (.int .u8 (bs[k].toNat : Int)) := fun k hk => (hch.cell (p := ⟨b, off + k, none⟩) (by have := hBwd; simp; omega) (fun h => by have := (hOd.out.lt b h).1; omega)).trans (hby k hk)
        have HO6 := Lib.hid (show Own w6 B (.slice ao6 C.length cap6) C from hadd.owns)
        have hBw6 : B ≤ w6.heap.size := Nat.le_trans hBwd hadd.grown.size
        have HQ := Lib.hid hps.out
        clear hadd HA hch HF hOd hPd hrd hBd hBwd hby hD
        go_wp2_with fail
        go_loopg [8] 127 (fun m s8 wr => ∃ q : Nat, q + m = 131 ∧ 4 ≤ q ∧ s8 = .int .i64 (q : Int) ∧ a + q ≤ bs.length ∧ Hid (q + ext bs p a q m = 4 + ext bs p a 4 127) ∧ ∃ d, wr = w6.drewN d)
        case atStart => exact ⟨4, rfl, Nat.le_refl _, rfl, h4, Lib.hid rfl, 0, rfl⟩
        case round =>
          obtain ⟨q, hq, hq4, rfl, hqn, hext, d, rfl⟩ := hrel
          have hw1 : IntKind.i64.wrap ((a : Int) + (q : Int)) = (a : Int) + (q : Int) := IntWalk.i64_in _ (by omega)
          have hw2 : IntKind.i64.wrap ((p : Int) + (q : Int)) = (p : Int) + (q : Int) := IntWalk.i64_in _ (by omega)
          by_cases hA : gk = 0
          case' pos =>
            have hX : Hid (q = 4 + ext bs p a 4 127) := Lib.hid (by have := hext.out; rw [hA, ext_stop_zero] at this; exact this)
            have hgA : decide ((q : Int) < 131) = false := decide_eq_false (by omega)
            clear hext hq hA hby6
            go_upto_region 11 with fail
            go_quiet (fail)
          case' neg =>
            have hgA : decide ((q : Int) < 131) = true := decide_eq_true (by omega)
            by_cases hBq : a + q < bs.length
            case' neg =>
              have hX : Hid (q = 4 + ext bs p a 4 127) := Lib.hid (by have := hext.out; rw [ext_stop (fun h => hBq h.1)] at this; exact this)
              have hgB : decide ((a : Int) + (q : Int) < (bs.length : Int)) = false := decide_eq_false (by omega)
              clear hext hq hA hby6
              go_upto_region 11 with fail
              go_quiet (fail)
            case' pos =>
              have hgB : decide ((a : Int) + (q : Int) < (bs.length : Int)) = true := decide_eq_true (by omega)
              have e1 := hby6 (a + q) hBq
              have e2 := hby6 (p + q) (by omega)
              have t1 : ((a : Int) + (q : Int)).toNat = a + q := by omega
              have t2 : ((p : Int) + (q : Int)).toNat = p + q := by omega
              have t3 : (0 : Int) ≤ (a : Int) + (q : Int) := by omega
              have t4 : (0 : Int) ≤ (p : Int) + (q : Int) := by omega
              have t5 : (p : Int) + (q : Int) < (bs.length : Int) := by omega
              have t6 : (a : Int) + (q : Int) < (bs.length : Int) := by omega
              by_cases hCq : bs[p + q] = bs[a + q]
              case' neg =>
                have hX : Hid (q = 4 + ext bs p a 4 127) := Lib.hid (by have := hext.out; rw [ext_stop (fun h => hCq (by have h2 := h.2; rw [List.getElem?_eq_getElem (by omega), List.getElem?_eq_getElem hBq] at h2; exact Option.some.inj h2))] at this; exact this)
                have hgC := u8_ne hCq
                have hgC2 := u8_ne2 hCq
                generalize bs[p + q] = x at *
                generalize bs[a + q] = y at *
                clear hext hq hA hby6
                go_upto_region 11 with fail
                go_quiet (fail)
              case' pos =>
                have hX : Hid ((q + 1) + ext bs p a (q + 1) (gk - 1) = 4 + ext bs p a 4 127) := Lib.hid (by
                  have := hext.out
                  obtain ⟨g1, rfl⟩ : ∃ g1, gk = g1 + 1 := ⟨gk - 1, by omega⟩
                  rw [ext_go ⟨hBq, by rw [List.getElem?_eq_getElem (by omega), List.getElem?_eq_getElem hBq, hCq]⟩] at this
                  rw [Nat.add_sub_cancel]
                  omega)
                rw [hCq] at e2
                generalize bs[a + q] = y at *
                clear hext hby6
                go_upto_region 11 with fail
                go_quiet (fail)
                go_wp2_with fail
                go_roundg (gk - 1)
                case measure => go_light; omega
                case rel =>
                  go_light
                  exact ⟨q + 1, by omega, by omega, by go_num, by omega, hX, d + nq, by simp⟩
          all_goals clear hw1 hw2
          all_goals (simp only [World.drewN_drewN])
          all_goals (have hq1 : 4 ≤ q := hq4)
          all_goals (have hq2 : q ≤ 131 := by have := hX.out; have := ext_le bs p a 127 4; omega)
          all_goals (have HOd := Lib.hid (show Own (w6.drewN (d + nq)) B (.slice ao6 C.length cap6) C from HO6.out))
          all_goals (have HBd := Lib.hid (show Below B w1 (w6.drewN (d + nq)) from ⟨hB6.out.os, hB6.out.tape, hB6.out.output, hB6.out.size, hB6.out.block⟩))
          all_goals (have hsz6 : B ≤ (w6.drewN (d + nq)).heap.size := hBw6)
          all_goals (have HEQ := Lib.hid (take_eq heq.out HK.out hX.out))
          all_goals (rw [← HQ.out, ← HCC.out] at HEQ)
          all_goals (have hLn : C.length ≤ 2 * a := by rw [HCC.out, HQ.out]; exact cs_len HM.out.2.2 HM.out.2.1 (by omega))
          all_goals clear HO6 hB6 hBw6
          all_goals (generalize w6.drewN (d + nq) = wd at *)
          all_goals (have h63 : C.length + 3 ≤ maxLen := by unfold maxLen; omega)
          all_goals (have hby3 : (C.length + 3) * 1 ≤ 140737488355328 := by omega)
          all_goals (have hba : ∀ o, B ≤ (wd.alloc o).heap.size := fun o => by simp; omega)
          all_goals (have hap : a ≤ 4194304 := by omega)
          all_goals (have hfr : a - p ≤ 65535 := HE.out.2.2.1)
          all_goals go_wp2_with (at_builtin; refine wpList_append_rd _ rfl (.tmp 60) (.tmp 74) 33 rfl B 5 (.int .u8 0) 1 1 Tryd.underlying33 infoU8 rfl (by decide) (.slice ao6 C.length cap6) C.length (C.map bV) rfl (HOd.out.alloc _) (.slice (some ⟨wd.heap.size, 0, none⟩) 3 3) 3 [.int .u8 (128 + (q : Int) - 4), .int .u8 (((a : Int) - (p : Int)) / 256), .int .u8 (((a : Int) - (p : Int)) % 256)] rfl (RdV.lit _ _ _ 3 1 (by decide) rfl) (three_one _ _ _) h63 hby3 (hba _) ?_; intro ao7 cap7 w7 hg7; have HG7 := Lib.hid hg7.ofAlloc; clear hg7)
          all_goals go_roundg (g0 - q)
          all_goals (try (case measure => go_light; have := HM2.out; omega))
          all_goals (try (case rel =>
            go_light
            have hm := HM.out
            have hm2 := HM2.out
            have hg := HG7.out
            rw [piece_bV q a p hq1 hq2 HE.out.2.1 HE.out.2.2.1, ← List.map_append] at hg
            have e2 : C.length + 3 = (C ++ piece (q - 4) (a - p)).length := by rw [List.length_append]; rfl
            rw [e2] at hg ⊢
            exact ⟨a + q, a + q, C ++ piece (q - 4) (a - p), ao7, cap7, none, 0, [], Lib.hid (sub_self _ _).symm, by omega, Nat.le_refl _, rfl, rfl, by go_num, by rw [← e2]; omega, Lib.hid (by rw [List.append_assoc]; exact HEQ.out), Lib.hid hg.owns, Lib.hid (Own.nil _ _), Lib.hid (fun k hk => by cases hk), Lib.hid (HBd.out.trans (hg.below hsz6 (fun k hk => (HOd.out.lt k hk).1)))⟩))

end Go.Proofs.YthcgalpabjjkoaaDoor

/- XLzDec: What pk writes can be read back: pieces of bytes, pieces that were there. -/
namespace Go.Proofs.YthcgalpabjjkoaaDoor
set_option linter.unusedVariables false

inductive Dec (bs : List UInt8) : Nat → List UInt8 → Prop where
  | nil : Dec bs bs.length []
  | lit (t n : Nat) (R : List UInt8) (h1 : 1 ≤ n) (h2 : n ≤ 127) (h3 : t + n ≤ bs.length) (h : Dec bs (t + n) R) : Dec bs t (UInt8.ofNat n :: (sub bs t (t + n) ++ R))
  | rep (t r far : Nat) (R : List UInt8) (h1 : r ≤ 127) (h2 : 1 ≤ far) (h3 : far ≤ 65535) (h4 : far ≤ t) (h5 : t + (4 + r) ≤ bs.length) (h6 : ∀ i, i < 4 + r → bs[t - far + i]? = bs[t + i]?) (h : Dec bs (t + (4 + r)) R) : Dec bs t (piece r far ++ R)

theorem dec_flush {bs : List UInt8} (R : List UInt8) : ∀ (m t e : Nat), e - t = m → t ≤ e → e ≤ bs.length → Dec bs e R → Dec bs t (flush (sub bs t e) ++ R) := by
  intro m
  induction m using Nat.strongRecOn with
  | _ m ih =>
    intro t e hm h1 h2 hd
    by_cases h0 : t = e
    · subst h0
      rw [sub_self, flush_nil]
      exact hd
    · have hl := sub_len bs t e h2
      have hs := flush_step (sub bs t e) (min 127 (e - t)) (by rw [hl]) (by rw [hl]; omega)
      rw [hs, sub_take _ _ _ _ (by omega), sub_drop, List.cons_append, List.cons_append, List.append_assoc]
      exact Dec.lit t (min 127 (e - t)) _ (by omega) (by omega) (by omega) (ih (e - (t + min 127 (e - t))) (by omega) _ e rfl (by omega) h2 hd)

theorem ext_alike (bs : List UInt8) (p a : Nat) : ∀ (f m i : Nat), i < ext bs p a m f → bs[p + m + i]? = bs[a + m + i]?
  | 0, m, i, h => by simp [ext] at h
  | f + 1, m, i, h => by
    unfold ext at h
    split at h
    · rename_i hh
      cases i with
      | zero => exact hh.2
      | succ i =>
        have := ext_alike bs p a f (m + 1) i (by omega)
        rw [show p + m + (i + 1) = p + (m + 1) + i by omega, show a + m + (i + 1) = a + (m + 1) + i by omega]
        exact this
    · omega

theorem at4_alike {bs : List UInt8} {p a : Nat} (h : at4 bs p = at4 bs a) (i : Nat) (hi : i < 4) : bs[p + i]? = bs[a + i]? := by
  have := congrArg (fun l => l[i]?) h
  simp only [at4, List.getElem?_take, if_pos hi, List.getElem?_drop] at this
  exact this

theorem near_at4 {bs : List UInt8} {a p : Nat} (h : near bs a = some p) : at4 bs p = at4 bs a := by
  unfold near at h
  cases hl : lastB bs a a with
  | none => rw [hl] at h; simp at h
  | some q =>
    rw [hl] at h
    simp at h
    obtain ⟨_, rfl⟩ := h
    exact (lastB_lt bs a a q hl).2

theorem dec_pk (bs : List UInt8) : ∀ (m a beg : Nat), bs.length - a = m → beg ≤ a → a ≤ bs.length → Dec bs beg (pk bs a beg) := by
  intro m
  induction m using Nat.strongRecOn with
  | _ m ih =>
    intro a beg hm h1 h2
    by_cases h4 : a + 4 ≤ bs.length
    · cases hn : near bs a with
      | none =>
        rw [pk_skip h4 hn]
        exact ih (bs.length - (a + 1)) (by omega) (a + 1) beg rfl (by omega) (by omega)
      | some p =>
        rw [pk_take h4 hn]
        have hl := near_lt hn
        have he := ext_in bs p a 127 4 h4
        have hx := ext_le bs p a 127 4
        refine dec_flush _ _ beg a rfl h1 h2 (Dec.rep a (ext bs p a 4 127) (a - p) _ hx (by omega) hl.2 (by omega) (by omega) (fun i hi => ?_) (ih (bs.length - (a + (4 + ext bs p a 4 127))) (by omega) _ _ rfl (Nat.le_refl _) (by omega)))
        rw [show a - (a - p) = p by omega]
        by_cases hi4 : i < 4
        · exact at4_alike (near_at4 hn) i hi4
        · have := ext_alike bs p a 127 4 (i - 4) (by omega)
          rw [show p + 4 + (i - 4) = p + i by omega, show a + 4 + (i - 4) = a + i by omega] at this
          exact this
    · rw [pk_end h4]
      have hs : bs.drop beg = sub bs beg bs.length := by unfold sub; rw [List.take_of_length_le (by simp)]
      rw [hs]
      have := dec_flush (bs := bs) [] _ beg bs.length rfl (by omega) (Nat.le_refl _) Dec.nil
      rwa [List.append_nil] at this

end Go.Proofs.YthcgalpabjjkoaaDoor

/- XLzUnpack: The contract of lz.Unpack, of what can be read back. -/
namespace Go.Proofs.YthcgalpabjjkoaaDoor
open Go.RowKit
set_option linter.unusedVariables false

theorem take_sub (bs : List UInt8) (t n : Nat) (h : t + n ≤ bs.length) : bs.take (t + n) = bs.take t ++ sub bs t (t + n) := by
  unfold sub
  rw [Nat.add_sub_cancel_left, List.take_add]

theorem dec_cases {bs : List UInt8} {t : Nat} {R : List UInt8} (h : Dec bs t R) : (R = [] ∧ t = bs.length) ∨
    (∃ n R', 1 ≤ n ∧ n ≤ 127 ∧ t + n ≤ bs.length ∧ R = UInt8.ofNat n :: (sub bs t (t + n) ++ R') ∧ Dec bs (t + n) R') ∨
    (∃ r far R', r ≤ 127 ∧ 1 ≤ far ∧ far ≤ 65535 ∧ far ≤ t ∧ t + (4 + r) ≤ bs.length ∧ (∀ i, i < 4 + r → bs[t - far + i]? = bs[t + i]?) ∧ R = piece r far ++ R' ∧ Dec bs (t + (4 + r)) R') := by
  cases h with
  | nil => exact .inl ⟨rfl, rfl⟩
  | lit _ n R' h1 h2 h3 h => exact .inr (.inl ⟨n, R', h1, h2, h3, rfl, h⟩)
  | rep _ r far R' h1 h2 h3 h4 h5 h6 h => exact .inr (.inr ⟨r, far, R', h1, h2, h3, h4, h5, h6, rfl, h⟩)

theorem rd_cells {w : World} {b off cap : Nat} {R : List UInt8} (h : Rd w (.slice (some ⟨b, off, none⟩) R.length cap) R) (k : Nat) (x : UInt8) (hx : R[k]? = some x) : w.cell? ⟨b, off + k, none⟩ = some (.int .u8 (x.toNat : Int)) := by
  have hk : k < R.length := (List.getElem?_eq_some_iff.1 hx).1
  obtain ⟨b', off', cap', he, _, _, _, hcc⟩ := RdV.some h.v (by omega) (by decide)
  simp only [Value.slice.injEq, Option.some.injEq, Addr.mk.injEq, true_and, and_true] at he
  obtain ⟨⟨rfl, rfl⟩, rfl⟩ := he
  exact hcc k (bV x) (by rw [List.getElem?_map, hx]; rfl)

set_option maxHeartbeats 1000000 in
set_option maxRecDepth 100000 in
theorem lzunpack_any (bs P : List UInt8) (v : Value) (w : World) (hn : bs.length ≤ 1000000) (hP : P.length ≤ 4000000) (hr : Rd w v P) (hd : Dec bs 0 P) :
    Calls Tryd.prog 95 #[v, .int .i64 (bs.length : Int)] w fun e w' => ∃ ao cap, e = .returned (.tuple #[.slice ao bs.length cap, .int .i64 0]) ∧ Own w' w.heap.size (.slice ao bs.length cap) bs ∧ Below w.heap.size w w' := by
  obtain ⟨ao0, cap0, rfl, hnc, hcm⟩ := RdV.shape hr
  unfold maxLen at hcm
  go_enter Tryd.func95, Tryd.ntmps95
  go_wp2_with fail
  go_loopg [0, 6] P.length (fun m s0 s6 wr => ∃ (t : Nat) (R os : List UInt8) (ao : Option Addr) (cap : Nat) (ap : Option Addr) (cp : Nat), R.length = m ∧ s0 = .slice ap R.length cp ∧ s6 = .slice ao os.length cap ∧ Hid (os = bs.take t) ∧ Hid (Dec bs t R) ∧ R.length ≤ P.length ∧ t ≤ bs.length ∧
    Hid (Rd wr (.slice ap R.length cp) R) ∧ Hid (∀ k, (Value.slice ap R.length cp).ownBlock = some k → (Value.slice ao0 P.length cap0).ownBlock = some k) ∧ Hid (Own wr w.heap.size (.slice ao os.length cap) os) ∧ Hid (Below w.heap.size w wr))
  case atStart => exact ⟨0, P, [], none, 0, ao0, cap0, rfl, rfl, rfl, Lib.hid rfl, Lib.hid hd, Nat.le_refl _, by omega, Lib.hid hr, Lib.hid (fun k h => h), Lib.hid (Own.nil _ _), Lib.hid (Below.refl _ _)⟩
  case round =>
    clear hd
    obtain ⟨t, R, os, ao, cap, ap, cp, hm, rfl, rfl, hos, hdec, hRP, htb, hR, hblk, hO, hB⟩ := hrel
    have hol : os.length ≤ 1000000 := by rw [hos.out]; simp; omega
    have HRB := Lib.hid (fun (h : 0 < R.length) k (hk : (Value.slice ap R.length cp).ownBlock = some k) => Rd.blk hr (by omega) k (hblk.out k hk))
    rcases dec_cases hdec.out with ⟨rfl, rfl⟩ | ⟨n, R', h1, h2, h3, hRe, hD'⟩ | ⟨r, far, R', h1, h2, h3, h4, h5, h6, hRe, hD'⟩
    · have hos2 : Hid (os = bs) := Lib.hid (by rw [hos.out, List.take_length])
      clear hos hdec htb hm
      go_wp2_with fail
      go_ret2
      have := hos2.out
      subst this
      exact ⟨ao, cap, rfl, hO.out, hB.out⟩
    · have hRl : R.length = 1 + n + R'.length := by rw [hRe, List.length_cons, List.length_append, sub_len _ _ _ h3]; omega
      have hR0 : R[0]? = some (UInt8.ofNat n) := by rw [hRe]; rfl
      have hRt : (R.drop 1).take n = sub bs t (t + n) := by rw [hRe, List.drop_succ_cons, List.drop_zero]; exact List.take_left' (by rw [sub_len _ _ _ h3]; omega)
      have hRd : R.drop (n + 1) = R' := by rw [hRe, List.drop_succ_cons]; exact List.drop_left' (by rw [sub_len _ _ _ h3]; omega)
      obtain ⟨b, off, bcap, hbv, hbn, hbm, hbl, _⟩ := RdV.some hR.out.v (by omega) (by decide)
      simp only [Value.slice.injEq, true_and] at hbv
      obtain ⟨rfl, rfl⟩ := hbv
      have e0 : wr.cell? ⟨b, off, none⟩ = some (.int .u8 (n : Int)) := by
        have := rd_cells hR.out 0 _ hR0
        rw [mem_ofNat n (by omega)] at this
        exact this
      unfold maxLen at hbm
      have hE := Lib.hid (⟨hm, hRl, hRe⟩ : R.length = gk ∧ R.length = 1 + n + R'.length ∧ R = UInt8.ofNat n :: (sub bs t (t + n) ++ R'))
      have hRb := HRB.out (by omega) b rfl
      have hgt : n + 1 ≤ R.length := by omega
      have hne : (Value.slice ao os.length cap).ownBlock ≠ some b := fun h => by have := (hO.out.lt b h).1; omega
      have hcut := Lib.hid (show RdV wr 1 (.slice (some ⟨b, off + 1, none⟩) n (cp - 1)) n ((sub bs t (t + n)).map bV) by
        have h := RdV.cut hR.out.v 1 (n + 1) (by omega) hgt
        rw [if_neg (by omega), Nat.mul_one, Nat.mul_one, Nat.add_sub_cancel] at h
        simp only [Option.map_some, Addr.add_lit] at h
        rw [← List.map_drop, ← List.map_take, hRt] at h
        exact h)
      have HRd := Lib.hid hRd
      have hcl1 : ¬ cp = 1 := by omega
      have i1 : ((n : Int) + 1).toNat = n + 1 := by omega
      have i2 : (n : Int) + 1 ≤ (cp : Int) := by omega
      have h63 : os.length + n ≤ maxLen := by unfold maxLen; omega
      have hby : (os.length + n) * 1 ≤ 140737488355328 := by omega
      have hba := hB.out.size
      have hlt : (n : Int) < (R.length : Int) := by omega
      have hos' : Hid (os.length = t) := Lib.hid (by rw [hos.out]; simp; omega)
      clear hm hRl hR0 hRt hRd hRe
      go_upto_region 18 with (at_builtin; refine wpList_append_rd _ rfl (.tmp 73) (.tmp 77) 33 rfl w.heap.size 5 (.int .u8 0) 1 1 Tryd.underlying33 infoU8 rfl (by decide) (.slice ao os.length cap) os.length (os.map bV) rfl hO.out (.slice (some ⟨b, off + 1, none⟩) n (cp - 1)) n ((sub bs t (t + n)).map bV) rfl hcut.out (bV_one _) h63 hby hba ?_; intro ao6 cap6 w6 hg6; have HG6 := Lib.hid hg6; have HR6 := Lib.hid (show Rd w6 (.slice (some ⟨b, off, none⟩) R.length cp) R from RdV.chg hR.out.v hg6.chg (fun k hk h => by cases hk; exact hne h)); clear hg6)
      have hlim : os.length + n ≤ bs.length := by have := hos'.out; omega
      have hcells := Lib.hid (show ((R.map bV).drop (n + 1)).take (R.length - (n + 1)) = R'.map bV by rw [List.take_of_length_le (by simp), ← List.map_drop, HRd.out])
      have hRn := Lib.hid (show R.length - (n + 1) = R'.length by have := hE.out.2.1; omega)
      go_wp2_with (with_reducible refine wpList_slice_rd _ rfl (.tmp 79) (some (.tmp 81)) none 33 rfl 5 1 (.int .u8 0) 1 Tryd.underlying33 infoU8 _ _ _ _ rfl HR6.out.v (n + 1) _ ?hb hgt (Nat.le_refl _) ?hk)
      case hb => first | exact bounds_lo _ _ _ _ hgt | (intro hx; exfalso; have := hx (by omega); omega)
      case hk =>
        intro ao5 cap5 hr5 hb5
        rw [hcells.out, hRn.out] at hr5
        rw [hRn.out] at hb5 ⊢
        have HR5 := Lib.hid hr5
        have HB5 := Lib.hid hb5
        clear hr5 hb5
        go_wp2_with fail
        go_roundg R'.length
        case measure => go_light; have := hE.out; omega
        case rel =>
          go_light
          have e1 : os.map bV ++ (sub bs t (t + n)).map bV = (os ++ sub bs t (t + n)).map bV := by rw [List.map_append]
          have hsl : (sub bs t (t + n)).length = n := by rw [sub_len _ _ _ h3]; omega
          have e2 : os.length + n = (os ++ sub bs t (t + n)).length := by rw [List.length_append, hsl]
          have hg := HG6.out
          rw [e1, e2] at hg
          rw [e2]
          exact ⟨t + n, R', os ++ sub bs t (t + n), ao6, cap6, ao5, cap5, rfl, rfl, rfl, Lib.hid (by rw [hos.out, ← take_sub _ _ _ h3]), Lib.hid hD', by have := hE.out; omega, h3, HR5, Lib.hid (fun k hk => hblk.out k (HB5.out k hk)), Lib.hid hg.owns,
            Lib.hid (hB.out.trans (hg.below hba (fun k hk => (hO.out.lt k hk).1)))⟩
    · have hpl : (piece r far).length = 3 := rfl
      have hRl : R.length = 3 + R'.length := by rw [hRe, List.length_append, hpl]
      have hR0 : R[0]? = some (UInt8.ofNat (128 + r)) := by rw [hRe]; rfl
      have hR1 : R[1]? = some (UInt8.ofNat (far / 256)) := by rw [hRe]; rfl
      have hR2 : R[2]? = some (UInt8.ofNat far) := by rw [hRe]; rfl
      have hRd : R.drop 3 = R' := by rw [hRe]; rfl
      obtain ⟨b, off, bcap, hbv, hbn, hbm, hbl, _⟩ := RdV.some hR.out.v (by omega) (by decide)
      simp only [Value.slice.injEq, true_and] at hbv
      obtain ⟨rfl, rfl⟩ := hbv
      have e0 : wr.cell? ⟨b, off, none⟩ = some (.int .u8 ((128 + r : Nat) : Int)) := by
        have := rd_cells hR.out 0 _ hR0
        rw [mem_ofNat _ (by omega)] at this
        exact this
      have e1 : wr.cell? ⟨b, off + 1, none⟩ = some (.int .u8 ((far / 256 : Nat) : Int)) := by
        have := rd_cells hR.out 1 _ hR1
        rw [mem_ofNat _ (by omega)] at this
        exact this
      have e2 : wr.cell? ⟨b, off + 2, none⟩ = some (.int .u8 ((far % 256 : Nat) : Int)) := by
        have := rd_cells hR.out 2 _ hR2
        rw [show (UInt8.ofNat far).toNat = far % 256 by rw [UInt8.toNat_ofNat']] at this
        exact this
      unfold maxLen at hbm
      have hE := Lib.hid (⟨hm, hRl, hRe⟩ : R.length = gk ∧ R.length = 3 + R'.length ∧ R = piece r far ++ R')
      have hRb := HRB.out (by omega) b rfl
      have hgt : 3 ≤ R.length := by omega
      have hgI : (3 : Int) ≤ (R.length : Int) := by omega
      have hne : (Value.slice ao os.length cap).ownBlock ≠ some b := fun h => by have := (hO.out.lt b h).1; omega
      have HRd := Lib.hid hRd
      have HH := Lib.hid h6
      obtain ⟨N, hN⟩ : ∃ N, N = 128 + r := ⟨_, rfl⟩
      obtain ⟨f1, hf1⟩ : ∃ f, f = far / 256 := ⟨_, rfl⟩
      obtain ⟨f2, hf2⟩ : ∃ f, f = far % 256 := ⟨_, rfl⟩
      rw [← hN] at e0
      rw [← hf1] at e1
      rw [← hf2] at e2
      have HNN := Lib.hid (⟨hN, hf1, hf2⟩ : N = 128 + r ∧ f1 = far / 256 ∧ f2 = far % 256)
      have hN1 : 128 ≤ N := by omega
      have hN2 : N ≤ 255 := by omega
      have hfa : f1 < 256 := by omega
      have hfb : f2 < 256 := by omega
      have hos' : Hid (os.length = t) := Lib.hid (by rw [hos.out]; simp; omega)
      have hfo : far ≤ os.length := by rw [hos'.out]; omega
      clear hm hRl hR0 hR1 hR2 hRd hRe hN hf1 hf2 h6 hpl
      go_upto_region 4 with fail
      go_quiet (fail)
      rw [i64_pair f1 f2 hfa hfb, show f1 * 256 + f2 = far by have := HNN.out; omega]
      have hRq : Hid (Rd (wr.drewN nq) (.slice (some ⟨b, off, none⟩) R.length cp) R) := hR
      have hOq : Hid (Own (wr.drewN nq) w.heap.size (.slice ao os.length cap) os) := hO
      have hBq : Hid (Below w.heap.size w (wr.drewN nq)) := Lib.hid ⟨hB.out.os, hB.out.tape, hB.out.output, hB.out.size, hB.out.block⟩
      clear e0 e1 e2 hR hO hB
      generalize wr.drewN nq = wd at *
      have hNN : IntKind.i64.wrap ((N : Int) - 128) = ((r : Nat) : Int) := by rw [IntWalk.i64_in _ (by omega)]; have := HNN.out; omega
      have hz : ((far : Int) == 0) = false := by simp; omega
      have hfd : decide (os.length < far) = false := decide_eq_false (by omega)
      have hfd2 : ¬ os.length < far := by omega
      have HF := Lib.hid (⟨h1, h2, h3, h4, h5⟩ : r ≤ 127 ∧ 1 ≤ far ∧ far ≤ 65535 ∧ far ≤ t ∧ t + (4 + r) ≤ bs.length)
      obtain ⟨g0, hg0⟩ : ∃ g, g = gk := ⟨gk, rfl⟩
      have HG0 := Lib.hid hg0
      clear hg0
      go_wp2_with fail
      go_loopg [6, 37] (r + 4) (fun m s6 s37 wr => ∃ (i : Nat) (os' : List UInt8) (ao : Option Addr) (cap : Nat), i + m = r + 4 ∧ s37 = .int .i64 (i : Int) ∧ s6 = .slice ao os'.length cap ∧ Hid (os' = bs.take (t + i)) ∧
        Hid (Rd wr (.slice (some ⟨b, off, none⟩) R.length cp) R) ∧ Hid (Own wr w.heap.size (.slice ao os'.length cap) os') ∧ Hid (Below w.heap.size w wr))
      case atStart => exact ⟨0, os, ao, cap, by omega, rfl, rfl, hos, hRq, hOq, hBq⟩
      case round =>
        obtain ⟨i, os', ao1, cap1, hi, rfl, rfl, hos1, hR1, hO1, hB1⟩ := hrel
        have hl1 : Hid (os'.length = t + i) := Lib.hid (by rw [hos1.out]; simp; omega)
        have hob : os'.length ≤ 1000000 := by have := hl1.out; omega
        by_cases h0 : gk = 0
        · have hieq := Lib.hid (show i = r + 4 by omega)
          have hfin : decide ((i : Int) < (r : Int) + 4) = false := decide_eq_false (by omega)
          have hlim : os'.length ≤ bs.length := by have := hl1.out; omega
          have hlim2 : ¬ bs.length < os'.length := by omega
          have hlimd : decide (bs.length < os'.length) = false := decide_eq_false hlim2
          have hcells := Lib.hid (show ((R.map bV).drop 3).take (R.length - 3) = R'.map bV by rw [List.take_of_length_le (by simp), ← List.map_drop, HRd.out])
          have hRn := Lib.hid (show R.length - 3 = R'.length by have := hE.out.2.1; omega)
          clear hz hfd hfd2 hNN hi h0
          go_upto_region 11 with fail
          go_wp2_with (with_reducible refine wpList_slice_rd _ rfl (.tmp 50) (some (.const (.int .i64 3))) none 33 rfl 5 1 (.int .u8 0) 1 Tryd.underlying33 infoU8 _ _ _ _ rfl hR1.out.v 3 _ ?hb2 hgt (Nat.le_refl _) ?hk2)
          case hb2 => first | exact bounds_lo _ _ _ _ hgt | (intro hx; exfalso; have := hx (by omega); omega) | (intro hx; exfalso; omega)
          case hk2 =>
            intro ao5 cap5 hr5 hb5
            rw [hcells.out, hRn.out] at hr5
            rw [hRn.out] at hb5 ⊢
            have HR5 := Lib.hid hr5
            have HB5 := Lib.hid hb5
            clear hr5 hb5
            go_wp2_with fail
            go_roundg R'.length
            case measure => go_light; have := hE.out; have := HG0.out; omega
            case rel =>
              go_light
              exact ⟨t + (4 + r), R', os', ao1, cap1, ao5, cap5, rfl, rfl, rfl, Lib.hid (by rw [hos1.out, hieq.out, Nat.add_comm r 4]), Lib.hid hD', by have := hE.out; omega, HF.out.2.2.2.2, HR5, Lib.hid (fun k hk => hblk.out k (HB5.out k hk)), hO1, hB1⟩
        · have hle : far ≤ os'.length := by have := hl1.out; omega
          obtain ⟨g, gc, he, hg1, hg2, hc, hf, _⟩ := rowAt hO1.out (os'.length - far) (by omega)
          obtain ⟨x, hx⟩ : ∃ x, bs[t + i]? = some x := ⟨bs[t + i]'(by omega), List.getElem?_eq_getElem (by omega)⟩
          have hxo : os'[os'.length - far]? = some x := by
            have hh := HH.out i (by omega)
            rw [hx] at hh
            rw [hos1.out, List.getElem?_take, if_pos (by have := hl1.out; rw [← hos1.out]; omega), ← hos1.out, hl1.out, show t + i - far = t - far + i by omega]
            exact hh
          rw [List.getElem?_map, hxo] at hc
          simp only [Value.slice.injEq, true_and] at he
          obtain ⟨rfl, rfl⟩ := he
          have hc' : wr.cell? ⟨g, os'.length - far, none⟩ = some (.int .u8 (x.toNat : Int)) := hc
          have t1 : ((os'.length : Int) - (far : Int)).toNat = os'.length - far := by omega
          have t2 : (0 : Int) ≤ (os'.length : Int) - (far : Int) := by omega
          have t3 : (os'.length : Int) - (far : Int) < (os'.length : Int) := by omega
          have h63 : os'.length + 1 ≤ maxLen := by unfold maxLen; omega
          have hby1 : (os'.length + 1) * 1 ≤ 140737488355328 := by omega
          have hba : ∀ o, w.heap.size ≤ (wr.alloc o).heap.size := fun o => by have := hB1.out.size; simp; omega
          have hXX := Lib.hid hx
          have hI := Lib.hid hi
          have hilt : (i : Int) < (r : Int) + 4 := by omega
          clear hc hx hxo hi
          go_wp2_with (at_builtin; refine wpList_append_rd _ rfl (.tmp 39) (.tmp 47) 33 rfl w.heap.size 5 (.int .u8 0) 1 1 Tryd.underlying33 infoU8 rfl (by decide) (.slice (some ⟨g, 0, none⟩) os'.length cap1) os'.length (os'.map bV) rfl (hO1.out.alloc _) (.slice (some ⟨wr.heap.size, 0, none⟩) 1 1) 1 [.int .u8 (x.toNat : Int)] rfl (RdV.one _ _ _) (one_one _ rfl) h63 hby1 (hba _) ?_; intro ao6 cap6 w6 hg6; have HG6 := Lib.hid hg6.ofAlloc; clear hg6)
          go_roundg (gk - 1)
          case measure => go_light; omega
          case rel =>
            go_light
            have hg := HG6.out
            rw [show os'.map bV ++ [.int .u8 (x.toNat : Int)] = (os' ++ [x]).map bV by simp [bV], show os'.length + 1 = (os' ++ [x]).length by simp] at hg
            rw [show os'.length + 1 = (os' ++ [x]).length by simp]
            refine ⟨i + 1, os' ++ [x], ao6, cap6, by have := hI.out; omega, by go_num, rfl, Lib.hid ?_, Lib.hid (RdV.chg hR1.out.v hg.chg (fun k hk h => ?_)), Lib.hid hg.owns, Lib.hid (hB1.out.trans (hg.below hB1.out.size (fun k hk => (hO1.out.lt k hk).1)))⟩
            · have hb := (List.getElem?_eq_some_iff.1 hXX.out).1
              rw [hos1.out, show t + (i + 1) = (t + i) + 1 by omega, List.take_add_one, hXX.out]; rfl
            · have k1 : b = k := Option.some.inj hk
              have k2 : g = k := Option.some.inj h
              rw [← k1] at k2
              exact absurd (k2 ▸ hg1) (Nat.not_le.2 hRb)
end Go.Proofs.YthcgalpabjjkoaaDoor
