/- What the two stamp Decodes take bytes for, in plain words. -/
import Derived.Test.YtcgjbjiififkhaaAwake05
import Derived.Test.YtcgjbjiififkhaaUnPlain
namespace Go.Proofs.Ytcgjbjiififkhaa
open Go.RowKit
set_option linter.unusedVariables false

def mB (b : List UInt8) : Nat := rdN 1 b
def nB (b : List UInt8) : Nat := rdN 2 (b.drop 1)
def tB (b : List UInt8) : Nat := rdN 8 (b.drop 3)
def xB (b : List UInt8) : List UInt8 := b.drop 11
/-- The j-th word; nought where there is none. -/
def wd (x : List UInt8) (j : Nat) : Nat := if 8 * j + 8 ≤ x.length then rdN 8 (x.drop (8 * j)) else 0
theorem wd_lt (x : List UInt8) (j : Nat) : wd x j < 18446744073709551616 := by
  unfold wd; split
  · exact rdN_lt 8 _
  · decide
def seq0 (T : Nat) (x : List UInt8) : Nat → Nat
  | 0 => T
  | i + 1 => wd x i
def seq1 (T D : Nat) : Nat → Nat
  | 0 => T
  | i + 1 => uT ((seq1 T D i : Int) + (D : Int))
def dd (l : List Nat) : Nat → Nat
  | 0 => 0
  | i + 1 => uT ((dd l i : Int) + zagZ (l.getD i 0))
def seq2 (T : Nat) (l : List Nat) : Nat → Nat
  | 0 => T
  | i + 1 => uT ((seq2 T l i : Int) + (dd l (i + 1) : Int))
def lst (f : Nat → Nat) (n : Nat) : List Int := upto (fun i => sI (f i)) n
theorem lst_len (f : Nat → Nat) (n : Nat) : (lst f n).length = n := upto_len _ _
theorem lst_next (f : Nat → Nat) (n : Nat) : lst f (n + 1) = lst f n ++ [sI (f n)] := upto_next _ _
theorem lst_ok (f : Nat → Nat) (n : Nat) : ∀ x ∈ lst f n, i64ok x := by
  intro x hx
  obtain ⟨i, _, rfl⟩ := List.mem_map.1 hx
  exact sI_ok _
theorem upto_getDG {α : Type} (f : Nat → α) (d : α) (n i : Nat) (h : i < n) : (upto f n).getD i d = f i := by simp [upto, h]
theorem upto_getG {α : Type} (f : Nat → α) (n i : Nat) (h : i < (upto f n).length) : (upto f n)[i] = f i := by simp [upto]
theorem lst_get (f : Nat → Nat) (n i : Nat) (h : i < n) : (lst f n).getD i 0 = sI (f i) := upto_getDG _ _ _ _ h
theorem lst_eq {t : List Int} (hok : ∀ x ∈ t, i64ok x) (f : Nat → Nat) (h : ∀ i, i < t.length → f i = uT (t.getD i 0)) : lst f t.length = t := by
  refine List.ext_getElem (lst_len _ _) fun i h1 h2 => ?_
  have e1 : (lst f t.length)[i] = sI (f i) := upto_getG _ _ _ h1
  rw [e1, h i h2, show t.getD i 0 = t[i] by simp [h2]]
  exact sI_uT _ (hok _ (List.getElem_mem h2))

theorem plS_split (t : List Int) : ∀ (m j : Nat), j < m → ∃ r, plS t m = plS t j ++ (be8 (uT (t.getD (j + 1) 0)) ++ r)
  | m + 1, j, h => by
    rw [plS_next]
    by_cases hj : j = m
    · subst hj
      exact ⟨[], by simp⟩
    · obtain ⟨r, hr⟩ := plS_split t m j (by omega)
      exact ⟨r ++ be8 (uT (t.getD (m + 1) 0)), by rw [hr]; simp [List.append_assoc]⟩
theorem wd_pl (t : List Int) (m j : Nat) (h : j < m) : wd (plS t m) j = uT (t.getD (j + 1) 0) := by
  obtain ⟨r, hr⟩ := plS_split t m j h
  unfold wd
  rw [if_pos (by rw [plS_len]; omega), hr, show 8 * j = (plS t j).length by rw [plS_len], List.drop_left]
  exact rd_be8 _ (uT_lt _) _
theorem seq0_pl (t : List Int) (m : Nat) : ∀ i, i < m + 1 → seq0 (uT (t.getD 0 0)) (plS t m) i = uT (t.getD i 0)
  | 0, _ => rfl
  | i + 1, h => wd_pl t m i (by omega)
theorem al_get {l : List Int} {k : Nat} (h : alF l k = true) : ∀ i, i < k → dAt l i = dAt l 0 := by
  unfold alF at h
  rw [Bool.and_eq_true] at h
  intro i hi
  have := List.all_eq_true.1 h.2 i (by simp [hi])
  simpa using this
theorem step_d (t : List Int) (i : Nat) : uT ((uT (t.getD i 0) : Int) + (dAt t i : Int)) = uT (t.getD (i + 1) 0) := by
  unfold dAt
  rw [uT_add]
  congr 1
  omega
theorem seq1_al {t : List Int} {m : Nat} (h : alF t m = true) : ∀ i, i < m + 1 → seq1 (uT (t.getD 0 0)) (dAt t 0) i = uT (t.getD i 0)
  | 0, _ => rfl
  | i + 1, hi => by
    unfold seq1
    rw [seq1_al h i (by omega), ← al_get h i (by omega), step_d]
theorem dd_z (t : List Int) (m : Nat) : ∀ i, i < m → dd (upto (zAt t) m) (i + 1) = dAt t i
  | 0, h => by
    show uT (((0 : Nat) : Int) + zagZ ((upto (zAt t) m).getD 0 0)) = _
    rw [upto_getD _ _ _ h]
    unfold zAt
    rw [zag_zig]
    have hp : pAt t 0 = 0 := rfl
    rw [hp]
    have h1 := uT_small (dAt t 0) (dAt_lt _ _)
    rw [show ((0 : Nat) : Int) + sI ((dAt t 0 : Int) - ((0 : Nat) : Int)) = sI (dAt t 0 : Int) by simp, uT_sI, h1]
  | i + 1, h => by
    have ih := dd_z t m i (by omega)
    show uT ((dd (upto (zAt t) m) (i + 1) : Int) + zagZ ((upto (zAt t) m).getD (i + 1) 0)) = _
    rw [ih, upto_getD _ _ _ h]
    unfold zAt
    rw [zag_zig]
    have hp : pAt t (i + 1) = dAt t i := rfl
    rw [hp]
    have h1 := uT_small (dAt t (i + 1)) (dAt_lt _ _)
    have h2 : ∀ a b : Int, uT (a + sI b) = uT (a + b) := fun a b => by unfold uT sI; omega
    rw [h2, show (dAt t i : Int) + ((dAt t (i + 1) : Int) - (dAt t i : Int)) = (dAt t (i + 1) : Int) by omega, h1]
theorem seq2_z (t : List Int) (m : Nat) : ∀ i, i < m + 1 → seq2 (uT (t.getD 0 0)) (upto (zAt t) m) i = uT (t.getD i 0)
  | 0, _ => rfl
  | i + 1, h => by
    unfold seq2
    rw [seq2_z t m i (by omega), dd_z t m i (by omega), step_d]

/-- The times that stamp.Decode tries; none: it ends before. -/
def candS (b : List UInt8) : Option (List Int) :=
  if b.length < 11 ∨ nB b < 1 ∨ 1000 < nB b then none
  else if mB b = 0 then some (lst (seq0 (tB b) (xB b)) (nB b))
  else if mB b = 1 then some (lst (seq1 (tB b) (wd (xB b) 0)) (nB b))
  else if mB b = 2 then match unA (xB b) ((nB b - 1 : Nat) : Int) with
    | none => none
    | some l => some (lst (seq2 (tB b) l) (l.length + 1))
  else some (lst (fun _ => tB b) 1)
/-- The times that gristref05.read gives. -/
def candR (b : List UInt8) : Option (List Int) :=
  if b.length < 11 ∨ nB b < 1 ∨ 1000 < nB b then none
  else if mB b = 0 then some (lst (seq0 (tB b) (xB b)) (min (nB b) ((xB b).length / 8 + 1)))
  else if mB b = 1 then some (lst (seq1 (tB b) (wd (xB b) 0)) (if 8 ≤ (xB b).length then nB b else 1))
  else if mB b = 2 then match unA (xB b) ((nB b - 1 : Nat) : Int) with
    | none => some (lst (seq2 (tB b) []) 1)
    | some l => some (lst (seq2 (tB b) l) (l.length + 1))
  else some (lst (fun _ => tB b) 1)

theorem rd_head {m : UInt8} {t : List Int} (h : t.length < 65536) (x : List UInt8) : 11 ≤ (hdS m t ++ x).length ∧ nB (hdS m t ++ x) = t.length ∧ tB (hdS m t ++ x) = uT (t.getD 0 0) ∧ xB (hdS m t ++ x) = x ∧ mB (hdS m t ++ x) = m.toNat := by
  refine ⟨by rw [List.length_append, hdS_len]; omega, ?_, ?_, ?_, ?_⟩
  · unfold nB hdS rdN
    rw [List.cons_append, List.drop_succ_cons, List.drop_zero, List.append_assoc, List.take_left' (beN_len 2 t.length)]
    unfold beN
    rw [bits8_pack8]
    simp only [length_bitsOf, Nat.reduceMul, Nat.reduceMod, Nat.sub_zero, List.replicate_zero, List.append_nil]
    rw [num_bitsOf]
    exact Nat.mod_eq_of_lt (by omega)
  · unfold tB
    have e : (hdS m t ++ x).drop 3 = be8 (uT (t.getD 0 0)) ++ x := by
      unfold hdS
      rw [List.cons_append, List.drop_succ_cons, List.append_assoc, List.drop_left' (beN_len 2 t.length)]
    rw [e]
    exact rd_be8 _ (uT_lt _) _
  · unfold xB
    rw [show (11 : Nat) = (hdS m t).length by rw [hdS_len], List.drop_left]
  · unfold mB rdN hdS
    rw [List.cons_append]
    show num (bits8 [m]) = _
    rw [bits8_cons, bits8_nil, List.append_nil, num_bitsOf]
    have := m.toNat_lt
    omega

theorem enc_parts {t : List Int} {b : List UInt8} (h : encS t = some b) : 1 ≤ t.length ∧ t.length ≤ 1000 ∧ b = encB t := by
  unfold encS at h
  split at h
  · cases h
  · rename_i hn
    exact ⟨by omega, by omega, by simpa using h.symm⟩

theorem cand_both {t : List Int} {b : List UInt8} (hok : ∀ x ∈ t, i64ok x) (h : encS t = some b) : candS b = some t ∧ candR b = some t := by
  obtain ⟨h1, h2, rfl⟩ := enc_parts h
  obtain ⟨m, hm⟩ : ∃ m, t.length = m + 1 := ⟨t.length - 1, by omega⟩
  have hm1 : t.length - 1 = m := by omega
  cases hal : alF t (t.length - 1) with
  | true =>
    rw [encB_al hal]
    obtain ⟨p1, p2, p3, p4, p5⟩ := rd_head (m := 1) (t := t) (by omega) (be8 (dAt t 0))
    rw [hm1] at hal
    have hw : wd (be8 (dAt t 0)) 0 = dAt t 0 := by
      unfold wd
      rw [if_pos (by rw [be8_len]; decide)]
      have := rd_be8 (dAt t 0) (dAt_lt _ _) []
      rwa [List.append_nil] at this
    have hl : lst (seq1 (uT (t.getD 0 0)) (dAt t 0)) t.length = t := lst_eq hok _ (fun i hi => seq1_al hal i (by omega))
    have e1 : (1 : UInt8).toNat = 1 := rfl
    constructor
    · unfold candS
      rw [p2, p3, p4, p5, hw, if_neg (by omega), if_neg (by rw [e1]; decide), if_pos e1, hl]
    · unfold candR
      rw [p2, p3, p4, p5, hw, if_neg (by omega), if_neg (by rw [e1]; decide), if_pos e1, be8_len, if_pos (Nat.le_refl 8), hl]
  | false =>
    have hpl : (pkA (upto (zAt t) (t.length - 1)) = none ∨ ¬ 1 < t.length) → candS (encB t) = some t ∧ candR (encB t) = some t := by
      intro hh
      rw [encB_pl hal hh]
      obtain ⟨p1, p2, p3, p4, p5⟩ := rd_head (m := 0) (t := t) (by omega) (plS t (t.length - 1))
      have hl : lst (seq0 (uT (t.getD 0 0)) (plS t (t.length - 1))) t.length = t := lst_eq hok _ (fun i hi => by rw [hm1]; exact seq0_pl t m i (by omega))
      have e1 : (0 : UInt8).toNat = 0 := rfl
      constructor
      · unfold candS
        rw [p2, p3, p4, p5, if_neg (by omega), if_pos e1, hl]
      · unfold candR
        rw [p2, p3, p4, p5, if_neg (by omega), if_pos e1, plS_len, show min t.length (8 * (t.length - 1) / 8 + 1) = t.length by omega, hl]
    cases hp : pkA (upto (zAt t) (t.length - 1)) with
    | none => exact hpl (.inl hp)
    | some p =>
      by_cases h1t : 1 < t.length
      · rw [encB_pk hal h1t hp]
        obtain ⟨p1, p2, p3, p4, p5⟩ := rd_head (m := 2) (t := t) (by omega) p
        have hu := unA_back hp
        rw [upto_len] at hu
        have hl : lst (seq2 (uT (t.getD 0 0)) (upto (zAt t) (t.length - 1))) (t.length - 1 + 1) = t := by
          rw [show t.length - 1 + 1 = t.length by omega]
          exact lst_eq hok _ (fun i hi => by rw [hm1]; exact seq2_z t m i (by omega))
        have e1 : (2 : UInt8).toNat = 2 := rfl
        constructor
        · unfold candS
          rw [p2, p3, p4, p5, if_neg (by omega), if_neg (by rw [e1]; decide), if_neg (by rw [e1]; decide), if_pos e1, hu]
          simp only [upto_len]
          rw [hl]
        · unfold candR
          rw [p2, p3, p4, p5, if_neg (by omega), if_neg (by rw [e1]; decide), if_neg (by rw [e1]; decide), if_pos e1, hu]
          simp only [upto_len]
          rw [hl]
      · exact hpl (.inr h1t)

/-- What both Decodes give. -/
def decS (b : List UInt8) : Option (List Int) := match candS b with
  | none => none
  | some t => if encS t = some b then some t else none
theorem candS_ok {b : List UInt8} {t : List Int} (h : candS b = some t) : ∀ x ∈ t, i64ok x := by
  unfold candS at h
  split at h
  · cases h
  · split at h
    · simp at h; rw [← h]; exact lst_ok _ _
    · split at h
      · simp at h; rw [← h]; exact lst_ok _ _
      · split at h
        · split at h
          · cases h
          · simp at h; rw [← h]; exact lst_ok _ _
        · simp at h; rw [← h]; exact lst_ok _ _
theorem candR_ok {b : List UInt8} {t : List Int} (h : candR b = some t) : ∀ x ∈ t, i64ok x := by
  unfold candR at h
  split at h
  · cases h
  · split at h
    · simp at h; rw [← h]; exact lst_ok _ _
    · split at h
      · simp at h; rw [← h]; exact lst_ok _ _
      · split at h
        · split at h
          · simp at h; rw [← h]; exact lst_ok _ _
          · simp at h; rw [← h]; exact lst_ok _ _
        · simp at h; rw [← h]; exact lst_ok _ _
theorem decS_of {t : List Int} {b : List UInt8} (hok : ∀ x ∈ t, i64ok x) (h : encS t = some b) : decS b = some t := by
  unfold decS
  rw [(cand_both hok h).1]
  simp only
  rw [if_pos h]
theorem decS_none {b : List UInt8} (h : ∀ t, (∀ x ∈ t, i64ok x) → encS t ≠ some b) : decS b = none := by
  unfold decS
  cases hc : candS b with
  | none => rfl
  | some t =>
    simp only
    rw [if_neg (h t (candS_ok hc))]
theorem dec_candS {b : List UInt8} {t : List Int} (h : candS b = some t) (h2 : encS t ≠ some b) : decS b = none := by
  unfold decS
  rw [h]
  simp only
  rw [if_neg h2]
theorem dec_candS_none {b : List UInt8} (h : candS b = none) : decS b = none := by unfold decS; rw [h]
theorem dec_candR {b : List UInt8} {t : List Int} (h : candR b = some t) (h2 : encS t ≠ some b) : decS b = none :=
  decS_none fun s hs he => by
    have := (cand_both hs he).2
    rw [h] at this
    obtain rfl : t = s := by simpa using this
    exact h2 he
theorem dec_candR_none {b : List UInt8} (h : candR b = none) : decS b = none :=
  decS_none fun s hs he => by
    have := (cand_both hs he).2
    rw [h] at this
    cases this
end Go.Proofs.Ytcgjbjiififkhaa
