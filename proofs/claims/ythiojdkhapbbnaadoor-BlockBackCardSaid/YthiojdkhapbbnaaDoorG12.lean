/- Texts of ours, behind one another: StDecPlain, StDec, BlDec, Dec08, OwnP, Back08. No conditions but those that each states. -/
import Derived.Test.YthiojdkhapbbnaaDoorG9
import Derived.Test.YthiojdkhapbbnaaDoorG3
import Derived.Test.YthiojdkhapbbnaaDoorG1
import Derived.Test.YthiojdkhapbbnaaDoorG10
import Derived.Test.YthiojdkhapbbnaaDoorG8
import Derived.Test.YthiojdkhapbbnaaDoorG7
import Derived.Test.YthiojdkhapbbnaaDoorG11
import Derived.Test.YthiojdkhapbbnaaDoorG5
/- XStDecPlain: What the two stamp Decodes take bytes for, in plain words. -/
namespace Go.Proofs.YthiojdkhapbbnaaDoor
open Go.RowKit
set_option linter.unusedVariables false

def mB (b : List UInt8) : Nat := rdN 1 b
def nB (b : List UInt8) : Nat := rdN 2 (b.drop 1)
def tB (b : List UInt8) : Nat := rdN 8 (b.drop 3)
def xB (b : List UInt8) : List UInt8 := b.drop 11
/-- The j-th word; nought where there is none. -/
def wd (x : List UInt8) (j : Nat) : Nat := if 8 * j + 8 ≤ x.length then rdN 8 (x.drop (8 * j)) else 0
theorem wd_lt (x : List UInt8) (j : Nat) : wd x j < 18446744073709551616 := by
  unfold wd; split
  · exact rdN_lt 8 _
  · decide
def seq0 (T : Nat) (x : List UInt8) : Nat → Nat
  | 0 => T
  | i + 1 => wd x i
def seq1 (T D : Nat) : Nat → Nat
  | 0 => T
  | i + 1 => uT ((seq1 T D i : Int) + (D : Int))
def dd (l : List Nat) : Nat → Nat
  | 0 => 0
  | i + 1 => uT ((dd l i : Int) + zagZ (l.getD i 0))
def seq2 (T : Nat) (l : List Nat) : Nat → Nat
  | 0 => T
  | i + 1 => uT ((seq2 T l i : Int) + (dd l (i + 1) : Int))
def lst (f : Nat → Nat) (n : Nat) : List Int := upto (fun i => sI (f i)) n
theorem lst_len (f : Nat → Nat) (n : Nat) : (lst f n).length = n := upto_len _ _
theorem lst_next (f : Nat → Nat) (n : Nat) : lst f (n + 1) = lst f n ++ [sI (f n)] := upto_next _ _
theorem lst_ok (f : Nat → Nat) (n : Nat) : ∀ x ∈ lst f n, i64ok x := by
  intro x hx
  obtain ⟨i, _, rfl⟩ := List.mem_map.1 hx
  exact sI_ok _
theorem upto_getDG {α : Type} (f : Nat → α) (d : α) (n i : Nat) (h : i < n) : (upto f n).getD i d = f i := by simp [upto, h]
theorem upto_getG {α : Type} (f : Nat → α) (n i : Nat) (h : i < (upto f n).length) : (upto f n)[i] = f i := by simp [upto]
theorem lst_get (f : Nat → Nat) (n i : Nat) (h : i < n) : (lst f n).getD i 0 = sI (f i) := upto_getDG _ _ _ _ h
theorem lst_eq {t : List Int} (hok : ∀ x ∈ t, i64ok x) (f : Nat → Nat) (h : ∀ i, i < t.length → f i = uT (t.getD i 0)) : lst f t.length = t := by
  refine List.ext_getElem (lst_len _ _) fun i h1 h2 => ?_
  have e1 : (lst f t.length)[i] = sI (f i) := upto_getG _ _ _ h1
  rw [e1, h i h2, show t.getD i 0 = t[i] by simp [h2]]
  exact sI_uT _ (hok _ (List.getElem_mem h2))

theorem plS_split (t : List Int) : ∀ (m j : Nat), j < m → ∃ r, plS t m = plS t j ++ (be8 (uT (t.getD (j + 1) 0)) ++ r)
  | m + 1, j, h => by
    rw [plS_next]
    by_cases hj : j = m
    · subst hj
      exact ⟨[], by simp⟩
    · obtain ⟨r, hr⟩ := plS_split t m j (by omega)
      exact ⟨r ++ be8 (uT (t.getD (m + 1) 0)), by rw [hr]; simp [List.append_assoc]⟩
theorem wd_pl (t : List Int) (m j : Nat) (h : j < m) : wd (plS t m) j = uT (t.getD (j + 1) 0) := by
  obtain ⟨r, hr⟩ := plS_split t m j h
  unfold wd
  rw [if_pos (by rw [plS_len]; omega), hr, show 8 * j = (plS t j).length by rw [plS_len], List.drop_left]
  exact rd_be8 _ (uT_lt _) _
theorem seq0_pl (t : List Int) (m : Nat) : ∀ i, i < m + 1 → seq0 (uT (t.getD 0 0)) (plS t m) i = uT (t.getD i 0)
  | 0, _ => rfl
  | i + 1, h => wd_pl t m i (by omega)
theorem al_get {l : List Int} {k : Nat} (h : alF l k = true) : ∀ i, i < k → dAt l i = dAt l 0 := by
  unfold alF at h
  rw [Bool.and_eq_true] at h
  intro i hi
  have := List.all_eq_true.1 h.2 i (by simp [hi])
  simpa using this
theorem step_d (t : List Int) (i : Nat) : uT ((uT (t.getD i 0) : Int) + (dAt t i : Int)) = uT (t.getD (i + 1) 0) := by
  unfold dAt
  rw [uT_add]
  congr 1
  omega
theorem seq1_al {t : List Int} {m : Nat} (h : alF t m = true) : ∀ i, i < m + 1 → seq1 (uT (t.getD 0 0)) (dAt t 0) i = uT (t.getD i 0)
  | 0, _ => rfl
  | i + 1, hi => by
    unfold seq1
    rw [seq1_al h i (by omega), ← al_get h i (by omega), step_d]
theorem dd_z (t : List Int) (m : Nat) : ∀ i, i < m → dd (upto (zAt t) m) (i + 1) = dAt t i
  | 0, h => by
    show uT (((0 : Nat) : Int) + zagZ ((upto (zAt t) m).getD 0 0)) = _
    rw [upto_getD _ _ _ h]
    unfold zAt
    rw [zag_zig]
    have hp : pAt t 0 = 0 := rfl
    rw [hp]
    have h1 := uT_small (dAt t 0) (dAt_lt _ _)
    rw [show ((0 : Nat) : Int) + sI ((dAt t 0 : Int) - ((0 : Nat) : Int)) = sI (dAt t 0 : Int) by simp, uT_sI, h1]
  | i + 1, h => by
    have ih := dd_z t m i (by omega)
    show uT ((dd (upto (zAt t) m) (i + 1) : Int) + zagZ ((upto (zAt t) m).getD (i + 1) 0)) = _
    rw [ih, upto_getD _ _ _ h]
    unfold zAt
    rw [zag_zig]
    have hp : pAt t (i + 1) = dAt t i := rfl
    rw [hp]
    have h1 := uT_small (dAt t (i + 1)) (dAt_lt _ _)
    have h2 : ∀ a b : Int, uT (a + sI b) = uT (a + b) := fun a b => by unfold uT sI; omega
    rw [h2, show (dAt t i : Int) + ((dAt t (i + 1) : Int) - (dAt t i : Int)) = (dAt t (i + 1) : Int) by omega, h1]
theorem seq2_z (t : List Int) (m : Nat) : ∀ i, i < m + 1 → seq2 (uT (t.getD 0 0)) (upto (zAt t) m) i = uT (t.getD i 0)
  | 0, _ => rfl
  | i + 1, h => by
    unfold seq2
    rw [seq2_z t m i (by omega), dd_z t m i (by omega), step_d]

/-- The times that stamp.Decode tries; none: it ends before. -/
def candS (b : List UInt8) : Option (List Int) :=
  if b.length < 11 ∨ nB b < 1 ∨ 1000 < nB b then none
  else if mB b = 0 then some (lst (seq0 (tB b) (xB b)) (nB b))
  else if mB b = 1 then some (lst (seq1 (tB b) (wd (xB b) 0)) (nB b))
  else if mB b = 2 then match unA (xB b) ((nB b - 1 : Nat) : Int) with
    | none => none
    | some l => some (lst (seq2 (tB b) l) (l.length + 1))
  else some (lst (fun _ => tB b) 1)
/-- The times that gristref05.read gives. -/
def candR (b : List UInt8) : Option (List Int) :=
  if b.length < 11 ∨ nB b < 1 ∨ 1000 < nB b then none
  else if mB b = 0 then some (lst (seq0 (tB b) (xB b)) (min (nB b) ((xB b).length / 8 + 1)))
  else if mB b = 1 then some (lst (seq1 (tB b) (wd (xB b) 0)) (if 8 ≤ (xB b).length then nB b else 1))
  else if mB b = 2 then match unA (xB b) ((nB b - 1 : Nat) : Int) with
    | none => some (lst (seq2 (tB b) []) 1)
    | some l => some (lst (seq2 (tB b) l) (l.length + 1))
  else some (lst (fun _ => tB b) 1)

theorem rd_head {m : UInt8} {t : List Int} (h : t.length < 65536) (x : List UInt8) : 11 ≤ (hdS m t ++ x).length ∧ nB (hdS m t ++ x) = t.length ∧ tB (hdS m t ++ x) = uT (t.getD 0 0) ∧ xB (hdS m t ++ x) = x ∧ mB (hdS m t ++ x) = m.toNat := by
  refine ⟨by rw [List.length_append, hdS_len]; omega, ?_, ?_, ?_, ?_⟩
  · unfold nB hdS rdN
    rw [List.cons_append, List.drop_succ_cons, List.drop_zero, List.append_assoc, List.take_left' (beN_len 2 t.length)]
    unfold beN
    rw [bits8_pack8]
    simp only [length_bitsOf, Nat.reduceMul, Nat.reduceMod, Nat.sub_zero, List.replicate_zero, List.append_nil]
    rw [num_bitsOf]
    exact Nat.mod_eq_of_lt (by omega)
  · unfold tB
    have e : (hdS m t ++ x).drop 3 = be8 (uT (t.getD 0 0)) ++ x := by
      unfold hdS
      rw [List.cons_append, List.drop_succ_cons, List.append_assoc, List.drop_left' (beN_len 2 t.length)]
    rw [e]
    exact rd_be8 _ (uT_lt _) _
  · unfold xB
    rw [show (11 : Nat) = (hdS m t).length by rw [hdS_len], List.drop_left]
  · unfold mB rdN hdS
    rw [List.cons_append]
    show num (bits8 [m]) = _
    rw [bits8_cons, bits8_nil, List.append_nil, num_bitsOf]
    have := m.toNat_lt
    omega

theorem enc_parts {t : List Int} {b : List UInt8} (h : encS t = some b) : 1 ≤ t.length ∧ t.length ≤ 1000 ∧ b = encB t := by
  unfold encS at h
  split at h
  · cases h
  · rename_i hn
    exact ⟨by omega, by omega, by simpa using h.symm⟩

theorem cand_both {t : List Int} {b : List UInt8} (hok : ∀ x ∈ t, i64ok x) (h : encS t = some b) : candS b = some t ∧ candR b = some t := by
  obtain ⟨h1, h2, rfl⟩ := enc_parts h
  obtain ⟨m, hm⟩ : ∃ m, t.length = m + 1 := ⟨t.length - 1, by omega⟩
  have hm1 : t.length - 1 = m := by omega
  cases hal : alF t (t.length - 1) with
  | true =>
    rw [encB_al hal]
    obtain ⟨p1, p2, p3, p4, p5⟩ := rd_head (m := 1) (t := t) (by omega) (be8 (dAt t 0))
    rw [hm1] at hal
    have hw : wd (be8 (dAt t 0)) 0 = dAt t 0 := by
      unfold wd
      rw [if_pos (by rw [be8_len]; decide)]
      have := rd_be8 (dAt t 0) (dAt_lt _ _) []
      rwa [List.append_nil] at this
    have hl : lst (seq1 (uT (t.getD 0 0)) (dAt t 0)) t.length = t := lst_eq hok _ (fun i hi => seq1_al hal i (by omega))
    have e1 : (1 : UInt8).toNat = 1 := rfl
    constructor
    · unfold candS
      rw [p2, p3, p4, p5, hw, if_neg (by omega), if_neg (by rw [e1]; decide), if_pos e1, hl]
    · unfold candR
      rw [p2, p3, p4, p5, hw, if_neg (by omega), if_neg (by rw [e1]; decide), if_pos e1, be8_len, if_pos (Nat.le_refl 8), hl]
  | false =>
    have hpl : (pkA (upto (zAt t) (t.length - 1)) = none ∨ ¬ 1 < t.length) → candS (encB t) = some t ∧ candR (encB t) = some t := by
      intro hh
      rw [encB_pl hal hh]
      obtain ⟨p1, p2, p3, p4, p5⟩ := rd_head (m := 0) (t := t) (by omega) (plS t (t.length - 1))
      have hl : lst (seq0 (uT (t.getD 0 0)) (plS t (t.length - 1))) t.length = t := lst_eq hok _ (fun i hi => by rw [hm1]; exact seq0_pl t m i (by omega))
      have e1 : (0 : UInt8).toNat = 0 := rfl
      constructor
      · unfold candS
        rw [p2, p3, p4, p5, if_neg (by omega), if_pos e1, hl]
      · unfold candR
        rw [p2, p3, p4, p5, if_neg (by omega), if_pos e1, plS_len, show min t.length (8 * (t.length - 1) / 8 + 1) = t.length by omega, hl]
    cases hp : pkA (upto (zAt t) (t.length - 1)) with
    | none => exact hpl (.inl hp)
    | some p =>
      by_cases h1t : 1 < t.length
      · rw [encB_pk hal h1t hp]
        obtain ⟨p1, p2, p3, p4, p5⟩ := rd_head (m := 2) (t := t) (by omega) p
        have hu := unA_back hp
        rw [upto_len] at hu
        have hl : lst (seq2 (uT (t.getD 0 0)) (upto (zAt t) (t.length - 1))) (t.length - 1 + 1) = t := by
          rw [show t.length - 1 + 1 = t.length by omega]
          exact lst_eq hok _ (fun i hi => by rw [hm1]; exact seq2_z t m i (by omega))
        have e1 : (2 : UInt8).toNat = 2 := rfl
        constructor
        · unfold candS
          rw [p2, p3, p4, p5, if_neg (by omega), if_neg (by rw [e1]; decide), if_neg (by rw [e1]; decide), if_pos e1, hu]
          simp only [upto_len]
          rw [hl]
        · unfold candR
          rw [p2, p3, p4, p5, if_neg (by omega), if_neg (by rw [e1]; decide), if_neg (by rw [e1]; decide), if_pos e1, hu]
          simp only [upto_len]
          rw [hl]
      · exact hpl (.inr h1t)

/-- What both Decodes give. -/
def decS (b : List UInt8) : Option (List Int) := match candS b with
  | none => none
  | some t => if encS t = some b then some t else none
theorem candS_ok {b : List UInt8} {t : List Int} (h : candS b = some t) : ∀ x ∈ t, i64ok x := by
  unfold candS at h
  split at h
  · cases h
  · split at h
    · simp at h; rw [← h]; exact lst_ok _ _
    · split at h
      · simp at h; rw [← h]; exact lst_ok _ _
      · split at h
        · split at h
          · cases h
          · simp at h; rw [← h]; exact lst_ok _ _
        · simp at h; rw [← h]; exact lst_ok _ _
theorem candR_ok {b : List UInt8} {t : List Int} (h : candR b = some t) : ∀ x ∈ t, i64ok x := by
  unfold candR at h
  split at h
  · cases h
  · split at h
    · simp at h; rw [← h]; exact lst_ok _ _
    · split at h
      · simp at h; rw [← h]; exact lst_ok _ _
      · split at h
        · split at h
          · simp at h; rw [← h]; exact lst_ok _ _
          · simp at h; rw [← h]; exact lst_ok _ _
        · simp at h; rw [← h]; exact lst_ok _ _
theorem decS_of {t : List Int} {b : List UInt8} (hok : ∀ x ∈ t, i64ok x) (h : encS t = some b) : decS b = some t := by
  unfold decS
  rw [(cand_both hok h).1]
  simp only
  rw [if_pos h]
theorem decS_none {b : List UInt8} (h : ∀ t, (∀ x ∈ t, i64ok x) → encS t ≠ some b) : decS b = none := by
  unfold decS
  cases hc : candS b with
  | none => rfl
  | some t =>
    simp only
    rw [if_neg (h t (candS_ok hc))]
theorem dec_candS {b : List UInt8} {t : List Int} (h : candS b = some t) (h2 : encS t ≠ some b) : decS b = none := by
  unfold decS
  rw [h]
  simp only
  rw [if_neg h2]
theorem dec_candS_none {b : List UInt8} (h : candS b = none) : decS b = none := by unfold decS; rw [h]
theorem dec_candR {b : List UInt8} {t : List Int} (h : candR b = some t) (h2 : encS t ≠ some b) : decS b = none :=
  decS_none fun s hs he => by
    have := (cand_both hs he).2
    rw [h] at this
    obtain rfl : t = s := by simpa using this
    exact h2 he
theorem dec_candR_none {b : List UInt8} (h : candR b = none) : decS b = none :=
  decS_none fun s hs he => by
    have := (cand_both hs he).2
    rw [h] at this
    cases this
end Go.Proofs.YthiojdkhapbbnaaDoor

/- XStDec: stamp.Decode. -/
namespace Go.Proofs.YthiojdkhapbbnaaDoor
open Go.RowKit
set_option linter.unusedVariables false

theorem gB_few {bs : List UInt8} (h : bs.length < 11) : gB bs (gP bs (gP bs 0 false 8) (gB bs 0 false 8) 16) (gB bs (gP bs 0 false 8) (gB bs 0 false 8) 16) 64 = true := by
  by_cases h1 : 8 ≤ 8 * bs.length - 0
  · have e1 : gB bs 0 false 8 = false := by simp [gB]; omega
    have e2 : gP bs 0 false 8 = 8 := by simp [gP]; omega
    rw [e1, e2]
    by_cases h2 : 16 ≤ 8 * bs.length - 8
    · have e3 : gB bs 8 false 16 = false := by simp [gB]; omega
      have e4 : gP bs 8 false 16 = 24 := by simp [gP]; omega
      rw [e3, e4]
      simp [gB]; omega
    · have e3 : gB bs 8 false 16 = true := by simp [gB]; omega
      rw [e3]; rfl
  · have e1 : gB bs 0 false 8 = true := by simp [gB]; omega
    rw [e1]; rfl
theorem g_head {bs : List UInt8} (h : 11 ≤ bs.length) : num (((bits8 bs).drop 0).take 8) = mB bs ∧ num (((bits8 bs).drop (0 + 8)).take 16) = nB bs ∧ num (((bits8 bs).drop (0 + 8 + 16)).take 64) = tB bs := by
  refine ⟨?_, ?_, ?_⟩
  · rw [List.drop_zero]; exact congrArg num (bits8_take 1 bs)
  · have e := bits8_drop 1 bs
    rw [show 0 + 8 = 8 * 1 by rfl, e]; exact congrArg num (bits8_take 2 _)
  · have e := bits8_drop 3 bs
    rw [show 0 + 8 + 16 = 8 * 3 by rfl, e]; exact congrArg num (bits8_take 8 _)

/-- What a Decode ends with. -/
def DecEnd (bs : List UInt8) (w : World) (e : Ending) (w' : World) : Prop :=
  Below w.heap.size w w' ∧ ((decS bs = none ∧ e = .returned (.tuple #[.slice none 0 0, .int .i64 2])) ∨ ∃ t ao cap, decS bs = some t ∧ e = .returned (.tuple #[.slice ao t.length cap, .int .i64 0]) ∧ Tms w' (.slice ao t.length cap) t)

theorem nB_lt (bs : List UInt8) : nB bs < 65536 := rdN_lt 2 _
theorem tB_lt (bs : List UInt8) : tB bs < 18446744073709551616 := rdN_lt 8 _
theorem mB_lt (bs : List UInt8) : mB bs < 256 := rdN_lt 1 _

theorem g_step {bs : List UInt8} (h11 : 11 ≤ bs.length) {P k : Nat} {Bd : Bool} (h : (Bd = false ∧ P = 88 + 64 * k) ∨ (Bd = true ∧ (xB bs).length < 8 * k)) :
    gV bs P Bd 64 = wd (xB bs) k ∧ ((gB bs P Bd 64 = false ∧ gP bs P Bd 64 = 88 + 64 * (k + 1)) ∨ (gB bs P Bd 64 = true ∧ (xB bs).length < 8 * (k + 1))) := by
  have hx : (xB bs).length = bs.length - 11 := by unfold xB; simp
  rcases h with ⟨rfl, rfl⟩ | ⟨rfl, h⟩
  · by_cases hN : 64 ≤ 8 * bs.length - (88 + 64 * k)
    · refine ⟨?_, .inl ⟨by simp [gB]; omega, by simp [gP, hN]; omega⟩⟩
      unfold gV wd
      rw [if_neg (by simp), if_pos hN, if_pos (by omega)]
      have e := bits8_drop (11 + 8 * k) bs
      rw [show 88 + 64 * k = 8 * (11 + 8 * k) by omega, e]
      unfold xB
      rw [List.drop_drop]
      exact congrArg num (bits8_take 8 _)
    · refine ⟨?_, .inr ⟨by simp [gB]; omega, by omega⟩⟩
      unfold gV wd
      rw [if_neg (by simp), if_neg hN, if_neg (by omega)]
  · refine ⟨?_, .inr ⟨by simp [gB], by omega⟩⟩
    unfold gV wd
    rw [if_pos rfl, if_neg (by omega)]

theorem OwnT.next {w w2 : World} {hi L cap6 : Nat} {v : Value} {ao6 : Option Addr} {f : Nat → Nat} {c : Int} (hc : c = sI (f L)) (h : Grew w w2 hi 2 1 v (.slice ao6 (L + 1) cap6) (L + 1) ((lst f L).map tV ++ [tV c])) : OwnT w2 hi (.slice ao6 (L + 1) cap6) (lst f (L + 1)) := by
  unfold OwnT
  rw [lst_len, lst_next, List.map_append, List.map_cons, List.map_nil, ← hc]
  exact h.owns
theorem xB_len (bs : List UInt8) : (xB bs).length = bs.length - 11 := by unfold xB; simp
theorem rd_tail {w : World} {ao' : Option Addr} {cap' : Nat} {bs : List UInt8} (h : RdV w 1 (.slice ao' (bs.length - 11) cap') (bs.length - 11) (List.take (bs.length - 11) (List.drop 11 (bs.map bV)))) : Rd w (.slice ao' (xB bs).length cap') (xB bs) := by
  unfold Rd
  have e2 : List.take (bs.length - 11) (List.drop 11 (bs.map bV)) = (xB bs).map bV := by rw [List.take_of_length_le (by simp), xB, List.map_drop]
  rw [e2] at h
  rw [xB_len]
  exact h
theorem lst_one (f : Nat → Nat) : lst f (0 + 1) = [sI (f 0 : Int)] := rfl
theorem uT_addr (a b : Int) : uT (a + (uT b : Int)) = uT (a + b) := by
  have := uT_cast b
  unfold uT at *; omega
theorem OwnT.row {w : World} {hi L : Nat} {v : Value} {f : Nat → Nat} (h : OwnT w hi v (lst f L)) : w.ownsRow hi 2 1 v L ((lst f L).map tV) := by
  unfold OwnT at h
  rwa [lst_len] at h

set_option maxHeartbeats 2000000 in
set_option maxRecDepth 100000 in
theorem decode_any (bs : List UInt8) (v : Value) (w : World) (hl : bs.length ≤ 140737488355328) (hr : Rd w v bs) :
    Calls Tryd.prog 27 #[v] w fun e w' => DecEnd bs w e w' := by
  obtain ⟨ao0, cap0, rfl, hnc, hcm⟩ := RdV.shape hr
  unfold maxLen at hcm
  have HR := Lib.hid hr
  have HL := Lib.hid hl
  have hNR := newReader_any _ bs w hl hr
  by_cases hlen : bs.length < 11
  · have HU := Lib.hid (dec_candS_none (show candS bs = none by unfold candS; rw [if_pos (.inl hlen)]))
    have HGB := gB_few hlen
    have hv2 := gV_lt bs (gP bs 0 false 8) (gB bs 0 false 8) 16 (by decide)
    have hG1 := fun (blk lo hi : Nat) (w : World) (h : Rdr w blk lo hi bs 0 false) => get_all blk lo hi 0 bs false 8 (by decide) (by decide) w h
    have hG2 := fun (blk lo hi : Nat) (w : World) (h : Rdr w blk lo hi bs (gP bs 0 false 8) (gB bs 0 false 8)) => get_all blk lo hi (gP bs 0 false 8) bs (gB bs 0 false 8) 16 (by decide) (by decide) w h
    have hG3 := fun (blk lo hi : Nat) (w : World) (h : Rdr w blk lo hi bs (gP bs (gP bs 0 false 8) (gB bs 0 false 8) 16) (gB bs (gP bs 0 false 8) (gB bs 0 false 8) 16)) => get_all blk lo hi _ bs _ 64 (by decide) (by decide) w h
    generalize gV bs 0 false 8 = V1 at *
    generalize gP bs 0 false 8 = P1 at *
    generalize gB bs 0 false 8 = B1 at *
    generalize gV bs P1 B1 16 = V2 at *
    generalize gP bs P1 B1 16 = P2 at *
    generalize gB bs P1 B1 16 = B2 at *
    generalize gV bs P2 B2 64 = V3 at *
    generalize gP bs P2 B2 64 = P3 at *
    generalize gB bs P2 B2 64 = B3 at *
    subst HGB
    clear hr hcm
    go_enter Tryd.func27, Tryd.ntmps27
    go_wp2_with (first
      | (go_at_call 25; refine hNR.mono ?_; rintro _ w2 ⟨blk, rfl, hrd, hbl⟩; have HB := Lib.hid hbl; have HRD := Lib.hid hrd; have hbk : Hid (w.heap.size ≤ blk) := Lib.hid (by obtain ⟨_, _, _, _, _, _, _, _, h, _⟩ := hrd; exact h); clear hbl hrd hNR)
      | (go_at_call 26; refine (hG1 _ _ _ _ HRD.out).mono ?_; rintro _ w3 ⟨rfl, hr3, hc3⟩; have HR3 := Lib.hid hr3; have HB3 := Lib.hid (HB.out.trans (hc3.below HB.out.size (fun k hk => by subst hk; exact hbk.out))); clear hG1 hr3 hc3 HRD)
      | (go_at_call 26; refine (hG2 _ _ _ _ HR3.out).mono ?_; rintro _ w4 ⟨rfl, hr4, hc4⟩; have HR4 := Lib.hid hr4; have HB4 := Lib.hid (HB3.out.trans (hc4.below HB3.out.size (fun k hk => by subst hk; exact hbk.out))); clear hG2 hr4 hc4 HR3)
      | (go_at_call 26; refine (hG3 _ _ _ _ HR4.out).mono ?_; rintro _ w5 ⟨rfl, hr5, hc5⟩; have HR5 := Lib.hid hr5; have HB5 := Lib.hid (HB4.out.trans (hc5.below HB4.out.size (fun k hk => by subst hk; exact hbk.out))); clear hG3 hr5 hc5 HR4)
      | (go_at_call 53; refine (bad_any _ _ _ _ _ _ _ HR5.out).mono ?_; rintro _ _ ⟨rfl, rfl⟩))
    go_ret2
    exact ⟨HB5.out, .inl ⟨HU.out, by go_light; rfl⟩⟩
  · have h11 : 11 ≤ bs.length := by omega
    obtain ⟨g1, g2, g3⟩ := g_head h11
    have hG1 := fun (blk lo hi : Nat) (w : World) (h : Rdr w blk lo hi bs 0 false) => getSome_any blk lo hi 0 bs 8 (by decide) (by decide) (by omega) w h
    have hG2 := fun (blk lo hi : Nat) (w : World) (h : Rdr w blk lo hi bs (0 + 8) false) => getSome_any blk lo hi (0 + 8) bs 16 (by decide) (by decide) (by omega) w h
    have hG3 := fun (blk lo hi : Nat) (w : World) (h : Rdr w blk lo hi bs (0 + 8 + 16) false) => getSome_any blk lo hi (0 + 8 + 16) bs 64 (by decide) (by decide) (by omega) w h
    rw [g1] at hG1
    rw [g2] at hG2
    rw [g3] at hG3
    have hN := nB_lt bs
    have hT := tB_lt bs
    have HC := Lib.hid (show candS bs = if bs.length < 11 ∨ nB bs < 1 ∨ 1000 < nB bs then none
      else if mB bs = 0 then some (lst (seq0 (tB bs) (xB bs)) (nB bs))
      else if mB bs = 1 then some (lst (seq1 (tB bs) (wd (xB bs) 0)) (nB bs))
      else if mB bs = 2 then match unA (xB bs) ((nB bs - 1 : Nat) : Int) with
        | none => none
        | some l => some (lst (seq2 (tB bs) l) (l.length + 1))
      else some (lst (fun _ => tB bs) 1) from rfl)
    clear g1 g2 g3
    have H11 := Lib.hid h11
    generalize mB bs = M at *
    generalize nB bs = N at *
    generalize tB bs = T at *
    have HT := Lib.hid hT
    clear hr hcm hT
    go_enter Tryd.func27, Tryd.ntmps27
    go_upto_region 3 with (first
      | (go_at_call 25; refine hNR.mono ?_; rintro _ w2 ⟨blk, rfl, hrd, hbl⟩; have HB := Lib.hid hbl; have HRD := Lib.hid hrd; have hbk : Hid (w.heap.size ≤ blk) := Lib.hid (by obtain ⟨_, _, _, _, _, _, _, _, h, _⟩ := hrd; exact h); have hbh : Hid (blk < w2.heap.size) := Lib.hid (by obtain ⟨_, _, _, _, _, _, _, _, _, h, _⟩ := hrd; exact h); clear hbl hrd hNR)
      | (go_at_call 26; refine (hG1 _ _ _ _ HRD.out).mono ?_; rintro _ w3 ⟨rfl, hr3, hc3⟩; have HR3 := Lib.hid hr3; have HB3 := Lib.hid (HB.out.trans (hc3.below HB.out.size (fun k hk => by subst hk; exact hbk.out))); have hs3 : Hid (w2.heap.size ≤ w3.heap.size) := Lib.hid hc3.size; clear hG1 hr3 hc3 HRD)
      | (go_at_call 26; refine (hG2 _ _ _ _ HR3.out).mono ?_; rintro _ w4 ⟨rfl, hr4, hc4⟩; have HR4 := Lib.hid hr4; have HB4 := Lib.hid (HB3.out.trans (hc4.below HB3.out.size (fun k hk => by subst hk; exact hbk.out))); have hs4 : Hid (w2.heap.size ≤ w4.heap.size) := Lib.hid (Nat.le_trans hs3.out hc4.size); clear hG2 hr4 hc4 HR3)
      | (go_at_call 26; refine (hG3 _ _ _ _ HR4.out).mono ?_; rintro _ w5 ⟨rfl, hr5, hc5⟩; have HR5 := Lib.hid hr5; have HB5 := Lib.hid (HB4.out.trans (hc5.below HB4.out.size (fun k hk => by subst hk; exact hbk.out))); have hs5 : Hid (w2.heap.size ≤ w5.heap.size) := Lib.hid (Nat.le_trans hs4.out hc5.size); clear hG3 hr5 hc5 HR4))
    generalize w2.heap.size = hi at *
    clear HB HB3 HB4 hs3 hs4
    by_cases hNN : N < 1 ∨ 1000 < N
    · have HU := Lib.hid (dec_candS_none (show candS bs = none by rw [HC.out, if_pos (.inr hNN)]))
      rcases hNN with h | h
      · have hI : (N : Int) < 1 := by omega
        go_wp2_with (go_at_call 53; refine (bad_any _ _ _ _ _ _ _ HR5.out).mono ?_; rintro _ _ ⟨rfl, rfl⟩)
        go_ret2
        exact ⟨HB5.out, .inl ⟨HU.out, by go_light; rfl⟩⟩
      · have hI : ¬ (N : Int) < 1 := by omega
        have hI2 : (1000 : Int) < (N : Int) := by omega
        go_wp2_with (go_at_call 53; refine (bad_any _ _ _ _ _ _ _ HR5.out).mono ?_; rintro _ _ ⟨rfl, rfl⟩)
        go_ret2
        exact ⟨HB5.out, .inl ⟨HU.out, by go_light; rfl⟩⟩
    · have hC := HC.out
      rw [if_neg (by omega)] at hC
      obtain ⟨n1, rfl⟩ : ∃ n1, N = n1 + 1 := ⟨N - 1, by omega⟩
      have hn1 : n1 ≤ 999 := by omega
      have hI : ¬ ((n1 + 1 : Nat) : Int) < 1 := by omega
      have hI2 : ¬ (1000 : Int) < ((n1 + 1 : Nat) : Int) := by omega
      have hsT := i64_wrap (T : Int)
      rw [show n1 + 1 - 1 = n1 by omega] at hC
      have HC2 := Lib.hid hC
      clear hC HC hN hNN hlen
      have hOL : Hid (OwnT (w5.alloc (.cells #[.int .i64 (sI (T : Int))] 2)) hi (.slice (some ⟨w5.heap.size, 0, none⟩) (0 + 1) 1) [sI (T : Int)]) := Lib.hid (World.ownsRow_lit w5 #[.int .i64 (sI (T : Int))] 1 hs5.out (by decide) rfl)
      have HB6 := Lib.hid (HB5.out.alloc HB5.out.size (.cells #[.int .i64 (sI (T : Int))] 2))
      have HR6 := Lib.hid (HR5.out.below ((Below.refl _ _).alloc (Nat.le_refl _) (.cells #[.int .i64 (sI (T : Int))] 2)))
      have HS6 : Hid (hi ≤ (w5.alloc (.cells #[.int .i64 (sI (T : Int))] 2)).heap.size) := Lib.hid (by have := hs5.out; simp; omega)
      by_cases hM0 : M = 0
      · subst hM0
        have HCD : Hid (candS bs = some (lst (seq0 T (xB bs)) (n1 + 1))) := Lib.hid (by rw [HC2.out, if_pos rfl])
        go_wp2_with (go_at_call 53; refine (bad_any _ _ _ _ _ _ _ HR5.out).mono ?_; rintro _ _ ⟨rfl, rfl⟩)
        clear HR5 HB5 hs5
        generalize w5.alloc (.cells #[.int .i64 (sI (T : Int))] 2) = w6 at *
        go_loopg [8, 44] n1 (fun m s8 s44 wr => ∃ (k : Nat) (ao : Option Addr) (cap P : Nat) (Bd : Bool), k + m = n1 ∧ s44 = .int .i64 (k : Int) ∧ s8 = .slice ao (k + 1) cap ∧ Hid (OwnT wr hi (.slice ao (k + 1) cap) (lst (seq0 T (xB bs)) (k + 1))) ∧ Hid (Below w.heap.size w wr) ∧ Hid (hi ≤ wr.heap.size) ∧ Hid (Rdr wr blk w.heap.size hi bs P Bd) ∧ Hid ((Bd = false ∧ P = 88 + 64 * k) ∨ (Bd = true ∧ (xB bs).length < 8 * k)))
        case atStart => exact ⟨0, some ⟨w5.heap.size, 0, none⟩, 1, 88, false, by omega, rfl, rfl, Lib.hid (by rw [lst_one]; exact hOL.out), HB6, HS6, HR6, Lib.hid (.inl ⟨rfl, rfl⟩)⟩
        case round =>
          clear hOL HB6 HS6 HR6
          obtain ⟨k, ao, cap, P, Bd, hk, rfl, rfl, HOt, HBx, HSz, HRd, HI⟩ := hrel
          by_cases h0 : gk = 0
          · obtain rfl : k = n1 := by omega
            have hE := encode_any (lst (seq0 T (xB bs)) (k + 1)) _ wr (candS_ok HCD.out) HOt.out.tms
            cases hes : encS (lst (seq0 T (xB bs)) (k + 1)) with
            | none =>
              have HU := Lib.hid (dec_candS HCD.out (by rw [hes]; simp))
              go_upto_region 32 with (go_at_call 21; refine hE.mono ?_; rintro e w6 ⟨hb6, h⟩; rw [hes] at h; rcases h with ⟨_, rfl⟩ | ⟨_, _, _, h, _⟩; have HB6 := Lib.hid (HBx.out.trans (hb6.mono HBx.out.size)); clear hb6 hE; rotate_left 1; cases h)
              go_wp2_with fail
              go_ret2
              exact ⟨HB6.out, .inl ⟨HU.out, by go_light; rfl⟩⟩
            | some c =>
              have HES := Lib.hid hes
              go_upto_region 32 with (go_at_call 21; refine hE.mono ?_; rintro e w6 ⟨hb6, h⟩; rw [HES.out] at h; rcases h with ⟨h, _⟩ | ⟨c2, co, cc, h, _, _, rfl, ho6⟩; cases h; obtain rfl : c = c2 := (by simpa using h); have HB6 := Lib.hid (HBx.out.trans (hb6.mono HBx.out.size)); have hEQ := bytesEqual_any bs c _ _ w6 (RdV.below HR.out HB6.out) ho6.rd; have HT6 := Lib.hid (show Tms w6 (.slice ao ((k + 1)) cap) (lst (seq0 T (xB bs)) (k + 1)) from RdV.below HOt.out.tms hb6); clear hb6 hE ho6 h)
              clear hes
              by_cases hcb : bs = c
              · subst hcb
                have HU := Lib.hid (show decS bs = some (lst (seq0 T (xB bs)) (k + 1)) by unfold decS; rw [HCD.out]; simp only; rw [if_pos HES.out])
                have hbb : (bs == bs) = true := by simp
                rw [hbb] at hEQ
                go_wp2_with (go_at_call 24; refine hEQ.mono ?_; rintro _ _ ⟨rfl, rfl⟩)
                go_ret2
                exact ⟨HB6.out, .inr ⟨lst (seq0 T (xB bs)) (k + 1), ao, cap, HU.out, by rw [lst_len]; go_light; rfl, by rw [lst_len]; exact HT6.out⟩⟩
              · have HU := Lib.hid (dec_candS HCD.out (by rw [HES.out]; intro h; exact hcb (by simpa using h.symm)))
                have hbb : (bs == c) = false := by simpa using hcb
                rw [hbb] at hEQ
                go_wp2_with (go_at_call 24; refine hEQ.mono ?_; rintro _ _ ⟨rfl, rfl⟩)
                go_ret2
                exact ⟨HB6.out, .inl ⟨HU.out, by go_light; rfl⟩⟩
          · have hkn : k < n1 := by omega
            obtain ⟨e1, e2⟩ := g_step H11.out HI.out
            have hG := get_all blk w.heap.size hi P bs Bd 64 (by decide) (by decide) wr HRd.out
            rw [e1] at hG
            have HI2 := Lib.hid e2
            have hw := wd_lt (xB bs) k
            have hsw := i64_wrap ((wd (xB bs) k : Nat) : Int)
            have hcell : Hid (sI ((wd (xB bs) k : Nat) : Int) = sI ((seq0 T (xB bs) (k + 1) : Nat) : Int)) := Lib.hid rfl
            have h63 : Hid (k + 1 + 1 ≤ maxLen) := Lib.hid (by unfold maxLen; omega)
            have hby : Hid ((k + 1 + 1) * 8 ≤ 140737488355328) := Lib.hid (by omega)
            clear e1 e2
            generalize gP bs P Bd 64 = P2 at *
            generalize gB bs P Bd 64 = B2 at *
            generalize wd (xB bs) k = V at *
            generalize sI (V : Int) = sV at *
            go_wp2_with (first
              | (go_at_call 26; refine hG.mono ?_; rintro _ w7 ⟨rfl, hr7, hc7⟩; have HR7 := Lib.hid hr7; have HB7 := Lib.hid (HBx.out.trans (hc7.below HBx.out.size (fun j hj => by subst hj; exact hbk.out))); have hO1 := Lib.hid (hc7.owns HOt.out.row (fun j hj e => by have h8 := (World.ownsRow.lt HOt.out.row j hj).1; have h9 := hbh.out; omega)); have HS7 : Hid (hi ≤ w7.heap.size) := Lib.hid (Nat.le_trans HSz.out hc7.size); have hba : Hid (∀ o, hi ≤ (w7.alloc o).heap.size) := Lib.hid (fun o => by have h6 := HS7.out; have e2 : (w7.alloc o).heap.size = w7.heap.size + 1 := (by simp); omega); clear hG hr7 hc7 HRd HOt HBx HSz)
              | (at_builtin; refine wpList_append_rd _ rfl (.tmp 46) (.tmp 50) 47 rfl hi 2 (.int .i64 0) 1 8 Tryd.underlying47 infoI64 rfl (by decide) (.slice ao (k + 1) cap) (k + 1) ((lst (seq0 T (xB bs)) (k + 1)).map tV) rfl (World.ownsRow.alloc hO1.out _) (.slice (some ⟨_, 0, none⟩) 1 1) 1 [tV sV] rfl (RdV.one _ _ 2) (one_one _ rfl) h63.out hby.out (hba.out _) ?_; intro ao6 cap6 w6 hg6; have HG := Lib.hid hg6.ofAlloc; clear hg6))
            go_roundg (gk - 1)
            case measure => go_light; omega
            case rel =>
              go_light
              exact ⟨k + 1, ao6, cap6, P2, B2, by omega, by go_num, rfl, Lib.hid (OwnT.next hcell.out HG.out), Lib.hid (HB7.out.trans (HG.out.below HB7.out.size (fun j hj => by have h8 := (World.ownsRow.lt hO1.out j hj).1; have h9 := hbk.out; have h10 := hbh.out; omega))), Lib.hid (Nat.le_trans HS7.out HG.out.grown.size), Lib.hid (HR7.out.keep HG.out.chg (fun j _ hj2 e => by have := (World.ownsRow.lt hO1.out j e).1; omega)), HI2⟩
      · by_cases hM1 : M = 1
        · subst hM1
          have HCD : Hid (candS bs = some (lst (seq1 T (wd (xB bs) 0)) (n1 + 1))) := Lib.hid (by rw [HC2.out, if_neg (by decide), if_pos rfl])
          obtain ⟨e1, _⟩ := g_step H11.out (bs := bs) (P := 88) (k := 0) (Bd := false) (.inl ⟨rfl, rfl⟩)
          have hG := fun (wx : World) (h : Rdr wx blk w.heap.size hi bs 88 false) => get_all blk w.heap.size hi 88 bs false 64 (by decide) (by decide) wx h
          rw [e1] at hG
          have hD := wd_lt (xB bs) 0
          clear e1
          generalize wd (xB bs) 0 = D at *
          go_upto_region 13 with (go_at_call 53; refine (bad_any _ _ _ _ _ _ _ HR5.out).mono ?_; rintro _ _ ⟨rfl, rfl⟩)
          clear HR5 HB5 hs5
          generalize w5.alloc (.cells #[.int .i64 (sI (T : Int))] 2) = w6 at *
          go_wp2_with (go_at_call 26; refine (hG _ HR6.out).mono ?_; rintro _ w7 ⟨rfl, hr7, hc7⟩; have HB7 := Lib.hid (HB6.out.trans (hc7.below HB6.out.size (fun j hj => by subst hj; exact hbk.out))); have HO7 := Lib.hid (show OwnT w7 hi _ [sI (T : Int)] from hc7.owns hOL.out (fun j hj e => by have h8 := (World.ownsRow.lt hOL.out j hj).1; have h9 := hbh.out; omega)); have HS7 : Hid (hi ≤ w7.heap.size) := Lib.hid (Nat.le_trans HS6.out hc7.size); clear hG hr7 hc7 HR6 hOL HB6 HS6)
          go_loopg [7, 8, 59] n1 (fun m s7 s8 s59 wr => ∃ (k : Nat) (ao : Option Addr) (cap : Nat), k + m = n1 ∧ s59 = .int .i64 (k : Int) ∧ s7 = .int .u64 ((seq1 T D k : Nat) : Int) ∧ s8 = .slice ao (k + 1) cap ∧ Hid (OwnT wr hi (.slice ao (k + 1) cap) (lst (seq1 T D) (k + 1))) ∧ Hid (Below w.heap.size w wr) ∧ Hid (hi ≤ wr.heap.size))
          case atStart => exact ⟨0, some ⟨w5.heap.size, 0, none⟩, 1, by omega, rfl, rfl, rfl, Lib.hid (by rw [lst_one]; exact HO7.out), HB7, HS7⟩
          case round =>
            clear HO7 HB7 HS7
            obtain ⟨k, ao, cap, hk, rfl, rfl, rfl, HOt, HBx, HSz⟩ := hrel
            by_cases h0 : gk = 0
            · obtain rfl : k = n1 := by omega
              have hE := encode_any (lst (seq1 T D) (k + 1)) _ wr (candS_ok HCD.out) HOt.out.tms
              cases hes : encS (lst (seq1 T D) (k + 1)) with
              | none =>
                have HU := Lib.hid (dec_candS HCD.out (by rw [hes]; simp))
                go_upto_region 32 with (go_at_call 21; refine hE.mono ?_; rintro e w6 ⟨hb6, h⟩; rw [hes] at h; rcases h with ⟨_, rfl⟩ | ⟨_, _, _, h, _⟩; have HB6 := Lib.hid (HBx.out.trans (hb6.mono HBx.out.size)); clear hb6 hE; rotate_left 1; cases h)
                go_wp2_with fail
                go_ret2
                exact ⟨HB6.out, .inl ⟨HU.out, by go_light; rfl⟩⟩
              | some c =>
                have HES := Lib.hid hes
                go_upto_region 32 with (go_at_call 21; refine hE.mono ?_; rintro e w6 ⟨hb6, h⟩; rw [HES.out] at h; rcases h with ⟨h, _⟩ | ⟨c2, co, cc, h, _, _, rfl, ho6⟩; cases h; obtain rfl : c = c2 := (by simpa using h); have HB6 := Lib.hid (HBx.out.trans (hb6.mono HBx.out.size)); have hEQ := bytesEqual_any bs c _ _ w6 (RdV.below HR.out HB6.out) ho6.rd; have HT6 := Lib.hid (show Tms w6 (.slice ao ((k + 1)) cap) (lst (seq1 T D) (k + 1)) from RdV.below HOt.out.tms hb6); clear hb6 hE ho6 h)
                clear hes
                by_cases hcb : bs = c
                · subst hcb
                  have HU := Lib.hid (show decS bs = some (lst (seq1 T D) (k + 1)) by unfold decS; rw [HCD.out]; simp only; rw [if_pos HES.out])
                  have hbb : (bs == bs) = true := by simp
                  rw [hbb] at hEQ
                  go_wp2_with (go_at_call 24; refine hEQ.mono ?_; rintro _ _ ⟨rfl, rfl⟩)
                  go_ret2
                  exact ⟨HB6.out, .inr ⟨lst (seq1 T D) (k + 1), ao, cap, HU.out, by rw [lst_len]; go_light; rfl, by rw [lst_len]; exact HT6.out⟩⟩
                · have HU := Lib.hid (dec_candS HCD.out (by rw [HES.out]; intro h; exact hcb (by simpa using h.symm)))
                  have hbb : (bs == c) = false := by simpa using hcb
                  rw [hbb] at hEQ
                  go_wp2_with (go_at_call 24; refine hEQ.mono ?_; rintro _ _ ⟨rfl, rfl⟩)
                  go_ret2
                  exact ⟨HB6.out, .inl ⟨HU.out, by go_light; rfl⟩⟩
            · have hkn : k < n1 := by omega
              have hadd : IntKind.u64.wrap (((seq1 T D k : Nat) : Int) + (D : Int)) = ((seq1 T D (k + 1) : Nat) : Int) := u64_wrap _
              have hsw := i64_wrap ((seq1 T D (k + 1) : Nat) : Int)
              have hcell : Hid (sI ((seq1 T D (k + 1) : Nat) : Int) = sI ((seq1 T D (k + 1) : Nat) : Int)) := Lib.hid rfl
              have h63 : Hid (k + 1 + 1 ≤ maxLen) := Lib.hid (by unfold maxLen; omega)
              have hby : Hid ((k + 1 + 1) * 8 ≤ 140737488355328) := Lib.hid (by omega)
              have hO1 := Lib.hid HOt.out.row
              have hba : Hid (∀ o, hi ≤ (wr.alloc o).heap.size) := Lib.hid (fun o => by have h6 := HSz.out; have e2 : (wr.alloc o).heap.size = wr.heap.size + 1 := (by simp); omega)
              obtain ⟨V, hV⟩ : ∃ V, V = seq1 T D (k + 1) := ⟨_, rfl⟩
              rw [← hV] at hadd hsw
              have HV := Lib.hid hV
              obtain ⟨sV, hsV⟩ : ∃ sV, sV = sI (V : Int) := ⟨_, rfl⟩
              rw [← hsV] at hsw
              have hcell2 : Hid (sV = sI ((seq1 T D (k + 1) : Nat) : Int)) := Lib.hid (by rw [hsV, hV])
              clear hcell hV hsV
              generalize seq1 T D k = U at *
              go_wp2_with (at_builtin; refine wpList_append_rd _ rfl (.tmp 64) (.tmp 67) 47 rfl hi 2 (.int .i64 0) 1 8 Tryd.underlying47 infoI64 rfl (by decide) (.slice ao (k + 1) cap) (k + 1) ((lst (seq1 T D) (k + 1)).map tV) rfl (World.ownsRow.alloc hO1.out _) (.slice (some ⟨_, 0, none⟩) 1 1) 1 [tV sV] rfl (RdV.one _ _ 2) (one_one _ rfl) h63.out hby.out (hba.out _) ?_; intro ao6 cap6 w6 hg6; have HG := Lib.hid hg6.ofAlloc; clear hg6)
              go_roundg (gk - 1)
              case measure => go_light; omega
              case rel =>
                go_light
                exact ⟨k + 1, ao6, cap6, by omega, by go_num, by rw [HV.out], rfl, Lib.hid (OwnT.next hcell2.out HG.out), Lib.hid (HBx.out.trans (HG.out.below HBx.out.size (fun j hj => by have h8 := (World.ownsRow.lt hO1.out j hj).1; have h9 := hbk.out; have h10 := hbh.out; omega))), Lib.hid (Nat.le_trans HSz.out HG.out.grown.size)⟩
        · by_cases hM2 : M = 2
          · subst hM2
            have hrr : RdV w 1 (.slice ao0 bs.length cap0) bs.length (bs.map bV) := HR.out.v
            have hw56 : Hid (w5.heap.size < (w5.alloc (.cells #[.int .i64 (sI (T : Int))] 2)).heap.size) := Lib.hid (by simp)
            go_upto_region 20 with (go_at_call 53; refine (bad_any _ _ _ _ _ _ _ HR5.out).mono ?_; rintro _ _ ⟨rfl, rfl⟩)
            clear HR5 HB5 hs5
            generalize w5.alloc (.cells #[.int .i64 (sI (T : Int))] 2) = w6 at *
            go_wp2_with (with_reducible refine wpList_slice_at w w6 rfl (.tmp 73) (some (.const (.int .i64 11))) none 24 rfl 5 1 (.int .u8 0) 1 Tryd.underlying24 infoU8 _ _ _ _ rfl hrr 11 bs.length ?hb h11 (Nat.le_refl _) ?hk)
            case hb => exact bounds_lo _ _ .i64 11 h11
            case hk =>
            intro ao5 cap5 hr5 _
            have hr6 := rd_tail hr5
            have hx := xB_len bs
            have hUn := unpack_any (xB bs) (n1 : Int) (by omega) (by omega) _ w6 (by omega) ⟨n1, by omega, .inl (Int.le_refl _)⟩ (RdV.below hr6.v HB6.out)
            rw [← hx] at hr5 ⊢
            clear hr5 hr6 hx hrr
            cases hua : unA (xB bs) (n1 : Int) with
            | none =>
              have HU := Lib.hid (dec_candS_none (show candS bs = none by rw [HC2.out, if_neg (by decide), if_neg (by decide), if_pos trivial, hua]))
              go_upto_region 21 with (go_at_call 55; refine hUn.mono ?_; rintro e w7 ⟨hb7, h⟩; rcases h with ⟨_, rfl⟩ | ⟨_, _, _, h, _⟩; have HB7 := Lib.hid (HB6.out.trans (hb7.mono HB6.out.size)); clear hb7 hUn; rotate_left 1; (rw [hua] at h; cases h))
              go_wp2_with fail
              go_ret2
              exact ⟨HB7.out, .inl ⟨HU.out, by go_light; rfl⟩⟩
            | some l =>
              have HUA := Lib.hid hua
              have HCD : Hid (candS bs = some (lst (seq2 T l) (l.length + 1))) := Lib.hid (by rw [HC2.out, if_neg (by decide), if_neg (by decide), if_pos trivial, hua])
              have HLT := Lib.hid (unA_lt hua)
              clear hua
              go_wp2_with (go_at_call 55; refine hUn.mono ?_; rintro e w7 ⟨hb7, h⟩; rcases h with ⟨h, _⟩ | ⟨l2, lo, lc, h, hl44, hln, rfl, hnl⟩; (rw [HUA.out] at h; cases h); obtain rfl : l = l2 := (by rw [HUA.out] at h; simpa using h); have HB7 := Lib.hid (HB6.out.trans (hb7.mono HB6.out.size)); have HNL := Lib.hid hnl; have HLN := Lib.hid hln; have HO7 := Lib.hid (show OwnT w7 hi _ [sI (T : Int)] from (Chg.ofBelowAny (S := fun _ => False) hb7).owns hOL.out (fun _ _ h => h)); have HS7 : Hid (hi ≤ w7.heap.size) := Lib.hid (Nat.le_trans HS6.out hb7.size); clear hb7 hUn h hnl hln hl44 hOL HB6 HS6 HR6)
              obtain ⟨q, hq⟩ : ∃ q, q = l.length := ⟨_, rfl⟩
              have hq9 : q ≤ 999 := by have := HLN.out; omega
              have HQ := Lib.hid hq
              have HNL2 : Hid (OwnN w7 w6.heap.size (.slice lo q lc) l) := Lib.hid (by rw [hq]; exact HNL.out)
              rw [← hq] at HCD ⊢
              clear hq HNL
              go_loopg [7, 8, 12, 85] q (fun m s7 s8 s12 s85 wr => ∃ (k : Nat) (ao : Option Addr) (cap : Nat), k + m = q ∧ s85 = .int .i64 (k : Int) ∧ s12 = .int .u64 ((dd l k : Nat) : Int) ∧ s7 = .int .u64 ((seq2 T l k : Nat) : Int) ∧ s8 = .slice ao (k + 1) cap ∧ Hid (OwnT wr hi (.slice ao (k + 1) cap) (lst (seq2 T l) (k + 1))) ∧ Hid (Below w.heap.size w wr) ∧ Hid (hi ≤ wr.heap.size) ∧ Hid (OwnN wr w6.heap.size (.slice lo q lc) l) ∧ Hid (∀ j, (Value.slice ao (k + 1) cap).ownBlock = some j → (Value.slice lo q lc).ownBlock ≠ some j))
              case atStart => exact ⟨0, some ⟨w5.heap.size, 0, none⟩, 1, by omega, rfl, rfl, rfl, rfl, Lib.hid (by rw [lst_one]; exact HO7.out), HB7, HS7, HNL2, Lib.hid (fun j hj e => by
                have h8 := (World.ownsRow.lt HNL2.out j e).1
                have h9 := hw56.out
                simp only [Value.ownBlock, Option.some.injEq] at hj
                omega)⟩
              case round =>
                clear HO7 HB7 HS7 HNL2
                obtain ⟨k, ao, cap, hk, rfl, rfl, rfl, rfl, HOt, HBx, HSz, HNL, HDJ⟩ := hrel
                by_cases h0 : gk = 0
                · obtain rfl : k = q := by omega
                  have hE := encode_any (lst (seq2 T l) (k + 1)) _ wr (candS_ok HCD.out) HOt.out.tms
                  cases hes : encS (lst (seq2 T l) (k + 1)) with
                  | none =>
                    have HU := Lib.hid (dec_candS HCD.out (by rw [hes]; simp))
                    go_upto_region 32 with (go_at_call 21; refine hE.mono ?_; rintro e w6 ⟨hb6, h⟩; rw [hes] at h; rcases h with ⟨_, rfl⟩ | ⟨_, _, _, h, _⟩; have HB6 := Lib.hid (HBx.out.trans (hb6.mono HBx.out.size)); clear hb6 hE; rotate_left 1; cases h)
                    go_wp2_with fail
                    go_ret2
                    exact ⟨HB6.out, .inl ⟨HU.out, by go_light; rfl⟩⟩
                  | some c =>
                    have HES := Lib.hid hes
                    go_upto_region 32 with (go_at_call 21; refine hE.mono ?_; rintro e w6 ⟨hb6, h⟩; rw [HES.out] at h; rcases h with ⟨h, _⟩ | ⟨c2, co, cc, h, _, _, rfl, ho6⟩; cases h; obtain rfl : c = c2 := (by simpa using h); have HB6 := Lib.hid (HBx.out.trans (hb6.mono HBx.out.size)); have hEQ := bytesEqual_any bs c _ _ w6 (RdV.below HR.out HB6.out) ho6.rd; have HT6 := Lib.hid (show Tms w6 (.slice ao ((k + 1)) cap) (lst (seq2 T l) (k + 1)) from RdV.below HOt.out.tms hb6); clear hb6 hE ho6 h)
                    clear hes
                    by_cases hcb : bs = c
                    · subst hcb
                      have HU := Lib.hid (show decS bs = some (lst (seq2 T l) (k + 1)) by unfold decS; rw [HCD.out]; simp only; rw [if_pos HES.out])
                      have hbb : (bs == bs) = true := by simp
                      rw [hbb] at hEQ
                      go_wp2_with (go_at_call 24; refine hEQ.mono ?_; rintro _ _ ⟨rfl, rfl⟩)
                      go_ret2
                      exact ⟨HB6.out, .inr ⟨lst (seq2 T l) (k + 1), ao, cap, HU.out, by rw [lst_len]; go_light; rfl, by rw [lst_len]; exact HT6.out⟩⟩
                    · have HU := Lib.hid (dec_candS HCD.out (by rw [HES.out]; intro h; exact hcb (by simpa using h.symm)))
                      have hbb : (bs == c) = false := by simpa using hcb
                      rw [hbb] at hEQ
                      go_wp2_with (go_at_call 24; refine hEQ.mono ?_; rintro _ _ ⟨rfl, rfl⟩)
                      go_ret2
                      exact ⟨HB6.out, .inl ⟨HU.out, by go_light; rfl⟩⟩
                · have hkn : k < q := by omega
                  obtain ⟨b, off, bcap, he, _, hc⟩ := num_at HNL.out.nums k (by rw [← HQ.out]; exact hkn)
                  simp only [Value.slice.injEq] at he
                  obtain ⟨rfl, h9, rfl⟩ := he
                  have hlk := HLT.out (l.getD k 0) (by
                    have hkl : k < l.length := by rw [← HQ.out]; exact hkn
                    rw [show l.getD k 0 = l[k] by simp [hkl]]; exact List.getElem_mem hkl)
                  have hzag := fun (wx : World) => zag_any (l.getD k 0) hlk wx
                  have hd1 : IntKind.u64.wrap (((dd l k : Nat) : Int) + IntKind.u64.wrap (zagZ (l.getD k 0))) = ((dd l (k + 1) : Nat) : Int) := by rw [u64_wrap (zagZ _), u64_wrap, uT_addr]; rfl
                  have hadd : IntKind.u64.wrap (((seq2 T l k : Nat) : Int) + ((dd l (k + 1) : Nat) : Int)) = ((seq2 T l (k + 1) : Nat) : Int) := u64_wrap _
                  have hsw := i64_wrap ((seq2 T l (k + 1) : Nat) : Int)
                  have h63 : Hid (k + 1 + 1 ≤ maxLen) := Lib.hid (by unfold maxLen; omega)
                  have hby : Hid ((k + 1 + 1) * 8 ≤ 140737488355328) := Lib.hid (by omega)
                  have hO1 := Lib.hid HOt.out.row
                  have hba : Hid (∀ o, hi ≤ (wr.alloc o).heap.size) := Lib.hid (fun o => by have h6 := HSz.out; have e2 : (wr.alloc o).heap.size = wr.heap.size + 1 := (by simp); omega)
                  obtain ⟨V, hV⟩ : ∃ V, V = seq2 T l (k + 1) := ⟨_, rfl⟩
                  rw [← hV] at hadd hsw
                  have HV := Lib.hid hV
                  obtain ⟨sV, hsV⟩ : ∃ sV, sV = sI (V : Int) := ⟨_, rfl⟩
                  rw [← hsV] at hsw
                  have hcell2 : Hid (sV = sI ((seq2 T l (k + 1) : Nat) : Int)) := Lib.hid (by rw [hsV, hV])
                  clear hV hsV h9 hlk
                  obtain ⟨D2, hD2⟩ : ∃ D2, D2 = dd l (k + 1) := ⟨_, rfl⟩
                  rw [← hD2] at hd1 hadd
                  have HD2 := Lib.hid hD2
                  clear hD2
                  generalize dd l k = D1 at *
                  generalize seq2 T l k = U at *
                  generalize zagZ (l.getD k 0) = z at *
                  generalize l.getD k 0 = x at *
                  go_wp2_with (first
                    | (go_at_call 56; refine (hzag _).mono ?_; rintro _ _ ⟨rfl, rfl⟩)
                    | (at_builtin; refine wpList_append_rd _ rfl (.tmp 97) (.tmp 100) 47 rfl hi 2 (.int .i64 0) 1 8 Tryd.underlying47 infoI64 rfl (by decide) (.slice ao (k + 1) cap) (k + 1) ((lst (seq2 T l) (k + 1)).map tV) rfl (World.ownsRow.alloc hO1.out _) (.slice (some ⟨_, 0, none⟩) 1 1) 1 [tV sV] rfl (RdV.one _ _ 2) (one_one _ rfl) h63.out hby.out (hba.out _) ?_; intro ao6 cap6 w6 hg6; have HG := Lib.hid hg6.ofAlloc; clear hg6))
                  go_roundg (gk - 1)
                  case measure => go_light; omega
                  case rel =>
                    go_light
                    exact ⟨k + 1, ao6, cap6, by omega, by go_num, by rw [HD2.out], by rw [HV.out], rfl, Lib.hid (OwnT.next hcell2.out HG.out), Lib.hid (HBx.out.trans (HG.out.below HBx.out.size (fun j hj => by have h8 := (World.ownsRow.lt hO1.out j hj).1; have h9 := hbk.out; have h10 := hbh.out; omega))), Lib.hid (Nat.le_trans HSz.out HG.out.grown.size), Lib.hid (HG.out.chg.owns HNL.out (fun j hj e => HDJ.out j e hj)), Lib.hid (fun j hj e => by
                      rcases HG.out.row j hj with h8 | h8
                      · exact HDJ.out j h8 e
                      · have := (World.ownsRow.lt HNL.out j e).2; omega)⟩
          · have HCD : Hid (candS bs = some (lst (fun _ => T) (0 + 1))) := Lib.hid (by rw [HC2.out, if_neg hM0, if_neg hM1, if_neg hM2])
            have hm0 : ((M : Int) == 0) = false := decide_eq_false (by omega)
            have hm1 : ((M : Int) == 1) = false := decide_eq_false (by omega)
            have hm2 : ((M : Int) == 2) = false := decide_eq_false (by omega)
            go_upto_region 31 with (go_at_call 53; refine (bad_any _ _ _ _ _ _ _ HR5.out).mono ?_; rintro _ _ ⟨rfl, rfl⟩)
            clear HR5 HB5 hs5
            have HOt : Hid (OwnT (w5.alloc (.cells #[.int .i64 (sI (T : Int))] 2)) hi (.slice (some ⟨w5.heap.size, 0, none⟩) (0 + 1) 1) (lst (fun _ => T) (0 + 1))) := Lib.hid (by rw [lst_one]; exact hOL.out)
            have HBx := HB6
            generalize w5.alloc (.cells #[.int .i64 (sI (T : Int))] 2) = w6 at *
            have hE := encode_any (lst (fun _ => T) (0 + 1)) _ w6 (candS_ok HCD.out) HOt.out.tms
            cases hes : encS (lst (fun _ => T) (0 + 1)) with
            | none =>
              have HU := Lib.hid (dec_candS HCD.out (by rw [hes]; simp))
              go_upto_region 32 with (go_at_call 21; refine hE.mono ?_; rintro e w6 ⟨hb6, h⟩; rw [hes] at h; rcases h with ⟨_, rfl⟩ | ⟨_, _, _, h, _⟩; have HB6 := Lib.hid (HBx.out.trans (hb6.mono HBx.out.size)); clear hb6 hE; rotate_left 1; cases h)
              go_wp2_with fail
              go_ret2
              exact ⟨HB6.out, .inl ⟨HU.out, by go_light; rfl⟩⟩
            | some c =>
              have HES := Lib.hid hes
              go_upto_region 32 with (go_at_call 21; refine hE.mono ?_; rintro e w6 ⟨hb6, h⟩; rw [HES.out] at h; rcases h with ⟨h, _⟩ | ⟨c2, co, cc, h, _, _, rfl, ho6⟩; cases h; obtain rfl : c = c2 := (by simpa using h); have HB6 := Lib.hid (HBx.out.trans (hb6.mono HBx.out.size)); have hEQ := bytesEqual_any bs c _ _ w6 (RdV.below HR.out HB6.out) ho6.rd; have HT6 := Lib.hid (show Tms w6 (.slice (some ⟨w5.heap.size, 0, none⟩) ((0 + 1)) 1) (lst (fun _ => T) (0 + 1)) from RdV.below HOt.out.tms hb6); clear hb6 hE ho6 h)
              clear hes
              by_cases hcb : bs = c
              · subst hcb
                have HU := Lib.hid (show decS bs = some (lst (fun _ => T) (0 + 1)) by unfold decS; rw [HCD.out]; simp only; rw [if_pos HES.out])
                have hbb : (bs == bs) = true := by simp
                rw [hbb] at hEQ
                go_wp2_with (go_at_call 24; refine hEQ.mono ?_; rintro _ _ ⟨rfl, rfl⟩)
                go_ret2
                exact ⟨HB6.out, .inr ⟨lst (fun _ => T) (0 + 1), (some ⟨w5.heap.size, 0, none⟩), 1, HU.out, by rw [lst_len]; go_light; rfl, by rw [lst_len]; exact HT6.out⟩⟩
              · have HU := Lib.hid (dec_candS HCD.out (by rw [HES.out]; intro h; exact hcb (by simpa using h.symm)))
                have hbb : (bs == c) = false := by simpa using hcb
                rw [hbb] at hEQ
                go_wp2_with (go_at_call 24; refine hEQ.mono ?_; rintro _ _ ⟨rfl, rfl⟩)
                go_ret2
                exact ⟨HB6.out, .inl ⟨HU.out, by go_light; rfl⟩⟩
end Go.Proofs.YthiojdkhapbbnaaDoor

/- XBlDec: What block.Decode reads, in plain words: the points whose bytes they are; a turned byte. -/
namespace Go.Proofs.YthiojdkhapbbnaaDoor
open Go.RowKit
set_option linter.unusedVariables false

/-- These points have these bytes. -/
def PdG (b : List UInt8) (l : List Pn) : Prop := encP l = (b, 0) ∧ ∀ p ∈ l, p.ok
open Classical in
/-- What a Decode gives, and its error's number. -/
noncomputable def pdP (b : List UInt8) : List Pn × Int := if h : ∃ l, PdG b l then (h.choose, 0) else ([], 2)
theorem pdP_good {b : List UInt8} {l : List Pn} (h : PdG b l) (hu : ∀ l', PdG b l' → l' = l) : pdP b = (l, 0) := by
  have hx : ∃ l, PdG b l := ⟨l, h⟩
  unfold pdP
  rw [dif_pos hx, hu _ hx.choose_spec]
theorem pdP_bad {b : List UInt8} (h : ∀ l, ¬ PdG b l) : pdP b = ([], 2) := by
  unfold pdP
  rw [dif_neg (fun ⟨l, hl⟩ => h l hl)]
def PdU (b : List UInt8) : Prop := ∀ l l', PdG b l → PdG b l' → l' = l
theorem pdP_of {b : List UInt8} {l : List Pn} (h : PdG b l) (hu : PdU b) : pdP b = (l, 0) := pdP_good h (fun l' h' => hu l l' h h')
def PdEnd (b : List UInt8) (w : World) (e : Ending) (w' : World) : Prop :=
  Below w.heap.size w w' ∧ PdU b ∧ ∃ ao cap, e = .returned (.tuple #[.slice ao (pdP b).1.length cap, .int .i64 (pdP b).2]) ∧ Pns w' (.slice ao (pdP b).1.length cap) (pdP b).1
theorem PdEnd.bad {b : List UInt8} {w w' : World} (hb : Below w.heap.size w w') (h : ∀ l, ¬ PdG b l) : PdEnd b w (.returned (.tuple #[.slice none 0 0, .int .i64 2])) w' := by
  refine ⟨hb, fun l l' h1 _ => absurd h1 (h l), none, 0, ?_, ?_⟩
  · rw [pdP_bad h]; rfl
  · rw [pdP_bad h]; exact RdV.nil _ _
theorem PdEnd.good {b : List UInt8} {w w' : World} {l : List Pn} {ao : Option Addr} {cap : Nat} (hb : Below w.heap.size w w') (h : PdG b l) (hu : ∀ l', PdG b l' → l' = l) (hv : Pns w' (.slice ao l.length cap) l) : PdEnd b w (.returned (.tuple #[.slice ao l.length cap, .int .i64 0])) w' := by
  refine ⟨hb, fun l1 l2 h1 h2 => by rw [hu l1 h1, hu l2 h2], ao, cap, ?_, ?_⟩
  · rw [pdP_good h hu]
  · rw [pdP_good h hu]; exact hv
theorem pdP_err {b : List UInt8} (h : (pdP b).2 ≠ 0) : (pdP b).1 = [] ∧ (pdP b).2 = 2 := by
  by_cases hx : ∃ l, PdG b l
  · unfold pdP at h
    rw [dif_pos hx] at h
    exact absurd rfl h
  · rw [pdP_bad (fun l hl => hx ⟨l, hl⟩)]
    exact ⟨rfl, rfl⟩
theorem pdP_two (b : List UInt8) : (pdP b).2 = 0 ∨ (pdP b).2 = 2 := by
  by_cases h : (pdP b).2 = 0
  · exact .inl h
  · exact .inr (pdP_err h).2
theorem pdP_PdG {b : List UInt8} (h : (pdP b).2 = 0) : PdG b (pdP b).1 := by
  by_cases hx : ∃ l, PdG b l
  · unfold pdP
    rw [dif_pos hx]
    exact hx.choose_spec
  · rw [pdP_bad (fun l hl => hx ⟨l, hl⟩)] at h
    simp at h

/-- The parts of a block's bytes. -/
def bodP (b : List UInt8) : List UInt8 := b.take (b.length - 4)
def sumP (b : List UInt8) : List UInt8 := b.drop (b.length - 4)
def nP (b : List UInt8) : Nat := rdN 4 (b.drop 1)
def kP (b : List UInt8) : Nat := (b.getD 0 0).toNat
def tP (b : List UInt8) : List UInt8 := (b.drop 5).take (nP b)
def vP (b : List UInt8) : List UInt8 := (b.drop (5 + nP b)).take (b.length - 4 - (5 + nP b))
theorem nP_lt (b : List UInt8) : nP b < 4294967296 := rdN_lt 4 _
theorem kP_lt (b : List UInt8) : kP b < 256 := (b.getD 0 0).toNat_lt

theorem encS_short {l : List Int} {b : List UInt8} (h : encS l = some b) : b.length ≤ 9000 ∧ 1 ≤ l.length ∧ l.length ≤ 1000 := by
  obtain ⟨h1, h2, rfl⟩ := enc_parts h
  refine ⟨?_, h1, h2⟩
  cases ha : alF l (l.length - 1) with
  | true => rw [encB_al ha, List.length_append, hdS_len, be8_len]; omega
  | false =>
    cases hp : pkA (upto (zAt l) (l.length - 1)) with
    | none => rw [encB_pl ha (.inl hp), List.length_append, hdS_len, plS_len]; omega
    | some p =>
      by_cases h3 : 1 < l.length
      · have := pkA_short hp
        rw [upto_len] at this
        rw [encB_pk ha h3 hp, List.length_append, hdS_len]
        omega
      · rw [encB_pl ha (.inr h3), List.length_append, hdS_len, plS_len]; omega
theorem seal_body (b : List UInt8) : bodP (sealB b) = b ∧ sumP (sealB b) = beN 4 (crc b) := by
  unfold bodP sumP
  rw [sealB_len, Nat.add_sub_cancel]
  unfold sealB
  exact ⟨List.take_left' rfl, List.drop_left' rfl⟩
theorem seal_of {b : List UInt8} (h : sumP b = beN 4 (crc (bodP b))) : sealB (bodP b) = b := by
  unfold sealB
  rw [← h]
  exact List.take_append_drop _ _
theorem beN4_inj {a b : Nat} (ha : a < 4294967296) (hb : b < 4294967296) (h : beN 4 a = beN 4 b) : a = b := by
  have h1 := rd_beN 4 a ha []
  have h2 := rd_beN 4 b hb []
  rw [List.append_nil] at h1 h2
  rw [← h1, ← h2, h]
theorem sealB_low {b : List UInt8} {j : Nat} (h : j < b.length) (hj : j < (sealB b).length) : (sealB b)[j] = b[j] := List.getElem_append_left h
theorem sealB_high {b : List UInt8} {j : Nat} (h : b.length ≤ j) (hj : j < (sealB b).length) (hk : j - b.length < (beN 4 (crc b)).length) : (sealB b)[j] = (beN 4 (crc b))[j - b.length] := List.getElem_append_right h
/-- A sealed text with one byte turned isn't sealed. -/
theorem seal_turn (a b : List UInt8) (j : Nat) (hj : j < (sealB b).length) (z : UInt8) (hz : z ≠ (sealB b)[j]) : sealB a ≠ (sealB b).set j z := by
  intro h
  have hl : a.length = b.length := by
    have := congrArg List.length h
    rw [List.length_set, sealB_len, sealB_len] at this
    omega
  by_cases hjb : j < b.length
  · have h1 : (sealB b).set j z = b.set j z ++ beN 4 (crc b) := by
      unfold sealB
      rw [List.set_append_left _ _ hjb]
    rw [h1] at h
    unfold sealB at h
    obtain ⟨h2, h3⟩ := List.append_inj h (by rw [List.length_set]; exact hl)
    have h4 := beN4_inj (crc_lt a) (crc_lt b) h3
    rw [h2] at h4
    have hz2 : z ≠ b[j] := by
      intro e
      apply hz
      rw [e, sealB_low hjb]
    exact crc_turn hjb hz2 h4
  · have h1 : (sealB b).set j z = b ++ (beN 4 (crc b)).set (j - b.length) z := by
      unfold sealB
      rw [List.set_append_right _ _ (by omega)]
    rw [h1] at h
    unfold sealB at h
    obtain ⟨h2, h3⟩ := List.append_inj h hl
    rw [h2] at h3
    have hj2 : j - b.length < (beN 4 (crc b)).length := by rw [beN_len]; rw [sealB_len] at hj; omega
    apply hz
    have h5 : (beN 4 (crc b))[j - b.length] = z := by
      have := congrArg (fun l => l[j - b.length]?) h3
      simp only [List.getElem?_set_self hj2, List.getElem?_eq_getElem hj2] at this
      simpa using this
    rw [← h5, sealB_high (by omega) hj hj2]
theorem PdG.turn {b : List UInt8} {l : List Pn} (h : PdG b l) (j : Nat) (hj : j < b.length) (z : UInt8) (hz : z ≠ b[j]) : ∀ l', ¬ PdG (b.set j z) l' := by
  have hs : ∀ {b : List UInt8} {l : List Pn}, PdG b l → ∃ y, b = sealB y := by
    intro b l h
    have h1 := h.1
    unfold encP at h1
    split at h1
    · simp at h1
    · split at h1
      · simp only [Prod.mk.injEq, and_true] at h1
        exact ⟨_, h1.symm⟩
      · rename_i h2
        simp only [Prod.mk.injEq] at h1
        exact absurd h1.2 h2
  intro l' h'
  obtain ⟨y, rfl⟩ := hs h
  obtain ⟨y', h2⟩ := hs h'
  exact seal_turn y' y j hj z hz h2.symm

theorem PdG.parts {b : List UInt8} {l : List Pn} (h : PdG b l) : 9 ≤ b.length ∧ sumP b = beN 4 (crc (bodP b)) ∧ nP b ≤ b.length - 9 ∧ encS (tsP l) = some (tP b) ∧ CdG (kP b : Int) (l.length : Int) (vP b) (vsP l) := by
  obtain ⟨h1, hok⟩ := h
  unfold encP at h1
  split at h1
  · simp at h1
  · rename_i t ht
    split at h1
    · rename_i hv
      simp only [Prod.mk.injEq, and_true] at h1
      obtain ⟨v, hve⟩ : ∃ v, v = (encC (vsP l)).1 := ⟨_, rfl⟩
      have hc : encC (vsP l) = (v, 0) := by rw [hve, ← hv]
      rw [← hve] at h1
      have hg := (encC_good (vsP_ok hok) hc).1
      have hk := encC_kind hc
      rw [vsP_len] at hg
      generalize ((vsP l).getD 0 v0).k = k at *
      have htl := (encS_short ht).1
      have hbl : b.length = 9 + (t.length + v.length) := by rw [← h1, sealB_len, bodB_len]; omega
      have hbs := seal_body (bodB k t v)
      rw [h1] at hbs
      have hkk : (kP b : Int) = k := by
        rw [← h1]
        show (((sealB (bodB k t v)).getD 0 0).toNat : Int) = k
        have e : (sealB (bodB k t v)).getD 0 0 = UInt8.ofNat k.toNat := rfl
        rw [e, UInt8.toNat_ofNat']
        omega
      have hf : b = UInt8.ofNat k.toNat :: (beN 4 t.length ++ (t ++ (v ++ beN 4 (crc (bodB k t v))))) := by
        rw [← h1]
        unfold sealB bodB
        simp
      have hd1 : b.drop 1 = beN 4 t.length ++ (t ++ (v ++ beN 4 (crc (bodB k t v)))) := by rw [hf]; rfl
      have hn : nP b = t.length := by
        unfold nP
        rw [hd1]
        exact rd_beN 4 _ (by omega) _
      have hd5 : b.drop 5 = t ++ (v ++ beN 4 (crc (bodB k t v))) := by
        rw [show 5 = 1 + 4 by rfl, ← List.drop_drop, hd1]
        exact List.drop_left' (beN_len 4 _)
      have htp : tP b = t := by
        unfold tP
        rw [hn, hd5]
        exact List.take_left' rfl
      have hvp : vP b = v := by
        unfold vP
        rw [hn, ← List.drop_drop, hd5, List.drop_left' rfl]
        exact List.take_left' (by omega)
      rw [htp, hvp, hkk, hn]
      exact ⟨by omega, by rw [hbs.2, hbs.1], by omega, ht, hg⟩
    · rename_i h2
      simp only [Prod.mk.injEq] at h1
      exact absurd h1.2 h2

/-- Times and values, put together. -/
def zipP (t : List Int) (v : List Va) : List Pn := List.zipWith Pn.mk t v
theorem zipP_len {t : List Int} {v : List Va} (h : t.length = v.length) : (zipP t v).length = t.length := by simp [zipP, h]
theorem tsP_zip : ∀ {t : List Int} {v : List Va}, t.length = v.length → tsP (zipP t v) = t
  | [], [], _ => rfl
  | [], _ :: _, h => by simp at h
  | _ :: _, [], h => by simp at h
  | x :: t, y :: v, h => by
    have := tsP_zip (t := t) (v := v) (by simpa using h)
    show x :: tsP (zipP t v) = _
    rw [this]
theorem vsP_zip : ∀ {t : List Int} {v : List Va}, t.length = v.length → vsP (zipP t v) = v
  | [], [], _ => rfl
  | [], _ :: _, h => by simp at h
  | _ :: _, [], h => by simp at h
  | x :: t, y :: v, h => by
    have := vsP_zip (t := t) (v := v) (by simpa using h)
    show y :: vsP (zipP t v) = _
    rw [this]
theorem zip_back : ∀ (l : List Pn), zipP (tsP l) (vsP l) = l
  | [] => rfl
  | p :: l => by
    show p :: zipP (tsP l) (vsP l) = _
    rw [zip_back l]
theorem zipP_ok : ∀ {t : List Int} {v : List Va}, (∀ x ∈ t, i64ok x) → (∀ y ∈ v, y.ok) → ∀ p ∈ zipP t v, p.ok
  | [], _, _, _ => by intro p hp; simp [zipP] at hp
  | _ :: _, [], _, _ => by intro p hp; simp [zipP] at hp
  | x :: t, y :: v, h1, h2 => by
    intro p hp
    have hp' : p ∈ (⟨x, y⟩ : Pn) :: zipP t v := hp
    rcases List.mem_cons.1 hp' with rfl | h
    · exact ⟨h1 x (by simp), h2 y (by simp)⟩
    · exact zipP_ok (fun a ha => h1 a (by simp [ha])) (fun a ha => h2 a (by simp [ha])) p h
theorem decS_some {b : List UInt8} {t : List Int} (h : decS b = some t) : encS t = some b ∧ ∀ x ∈ t, i64ok x := by
  unfold decS at h
  split at h
  · cases h
  · rename_i t' hc
    split at h
    · rename_i he
      obtain rfl : t' = t := by simpa using h
      exact ⟨he, candS_ok hc⟩
    · cases h
theorem decS_uniq {b : List UInt8} {t t' : List Int} (h : decS b = some t) (hok : ∀ x ∈ t', i64ok x) (h' : encS t' = some b) : t' = t := by
  have := decS_of hok h'
  rw [h] at this
  simpa using this.symm
theorem body_split {b : List UInt8} (h9 : 9 ≤ b.length) (hn : nP b ≤ b.length - 9) : bodP b = b.getD 0 0 :: ((b.drop 1).take 4 ++ (tP b ++ vP b)) ∧ (tP b).length = nP b := by
  have htl : (tP b).length = nP b := by unfold tP; rw [List.length_take, List.length_drop]; omega
  refine ⟨?_, htl⟩
  unfold tP vP
  have e1 : (b.drop 5).take (nP b) ++ (b.drop (5 + nP b)).take (b.length - 4 - (5 + nP b)) = (b.drop 5).take (b.length - 9) := by
    rw [← List.drop_drop]
    conv => rhs; rw [show b.length - 9 = nP b + (b.length - 4 - (5 + nP b)) by omega, List.take_add]
  rw [e1]
  have e2 : (b.drop 1).take 4 ++ (b.drop 5).take (b.length - 9) = (b.drop 1).take (b.length - 5) := by
    rw [show 5 = 1 + 4 by rfl, ← List.drop_drop]
    conv => rhs; rw [show b.length - (1 + 4) = 4 + (b.length - 9) by omega, List.take_add]
  rw [e2]
  unfold bodP
  clear hn htl e1 e2
  match b, h9 with
  | x :: r, h9 =>
    rw [List.length_cons] at h9
    show (x :: r).take (r.length + 1 - 4) = x :: (r.take (r.length + 1 - 5))
    rw [show r.length + 1 - 4 = (r.length + 1 - 5) + 1 by omega, List.take_succ_cons]
theorem pdG_of {b : List UInt8} {t : List Int} {vs : List Va} (h9 : 9 ≤ b.length) (hs : sumP b = beN 4 (crc (bodP b))) (hn : nP b ≤ b.length - 9) (ht : decS (tP b) = some t)
    (hv : CdG (kP b : Int) (t.length : Int) (vP b) vs) (hu : ∀ l', CdG (kP b : Int) (t.length : Int) (vP b) l' → l' = vs) : PdG b (zipP t vs) ∧ ∀ l', PdG b l' → l' = zipP t vs := by
  obtain ⟨ht1, ht2⟩ := decS_some ht
  have hlen : t.length = vs.length := by have := hv.2.1; omega
  obtain ⟨hb, htl⟩ := body_split h9 hn
  refine ⟨⟨?_, zipP_ok ht2 hv.2.2.2⟩, fun l' hl' => ?_⟩
  · have hp := encP_ok (l := zipP t vs) (t := tP b) (v := vP b) (by rw [tsP_zip hlen]; exact ht1) (by rw [vsP_zip hlen]; exact hv.1)
    rw [hp]
    congr 1
    have hk : ((vsP (zipP t vs)).getD 0 v0).k = (kP b : Int) := by
      rw [vsP_zip hlen]
      exact hv.2.2.1 _ (getD_mem vs 0 v0 (by have := (encS_short ht1).2.1; omega))
    rw [hk]
    have e : bodB (kP b : Int) (tP b) (vP b) = bodP b := by
      unfold bodB
      rw [hb, htl]
      have e1 : UInt8.ofNat ((kP b : Int)).toNat = b.getD 0 0 := by
        apply UInt8.toNat_inj.1
        rw [UInt8.toNat_ofNat']
        have := kP_lt b
        unfold kP at *
        omega
      have e2 : beN 4 (nP b) = (b.drop 1).take 4 := beN_rdN 4 _ (by rw [List.length_drop]; omega)
      rw [e1, e2]
    rw [e]
    exact seal_of hs
  · obtain ⟨_, _, _, h4, h5⟩ := hl'.parts
    have e1 := decS_uniq ht (tsP_ok hl'.2) h4
    have hll : l'.length = t.length := by rw [← e1, tsP_len]
    rw [hll] at h5
    have e2 := hu _ h5
    rw [← e1, ← e2, zip_back]
theorem pdG_no_sum {b : List UInt8} (h : sumP b ≠ beN 4 (crc (bodP b))) : ∀ l, ¬ PdG b l := fun l hl => h hl.parts.2.1
theorem pdG_no_short {b : List UInt8} (h : b.length < 9) : ∀ l, ¬ PdG b l := fun l hl => by have := hl.parts.1; omega
theorem pdG_no_n {b : List UInt8} (h : b.length - 9 < nP b) : ∀ l, ¬ PdG b l := fun l hl => by have := hl.parts.2.2.1; omega
theorem pdG_no_t {b : List UInt8} (h : decS (tP b) = none) : ∀ l, ¬ PdG b l := fun l hl => by
  have := decS_of (tsP_ok hl.2) hl.parts.2.2.2.1
  rw [h] at this
  cases this
theorem pdG_no_v {b : List UInt8} {t : List Int} (ht : decS (tP b) = some t) (h : ∀ l, ¬ CdG (kP b : Int) (t.length : Int) (vP b) l) : ∀ l, ¬ PdG b l := fun l hl => by
  obtain ⟨_, _, _, h4, h5⟩ := hl.parts
  have e1 := decS_uniq ht (tsP_ok hl.2) h4
  have hll : l.length = t.length := by rw [← e1, tsP_len]
  rw [hll] at h5
  exact h _ h5
theorem pdG_len {b : List UInt8} {l : List Pn} (h : PdG b l) : 1 ≤ l.length ∧ l.length ≤ 1000 := by
  have := encS_short h.parts.2.2.2.1
  rw [tsP_len] at this
  exact this.2
end Go.Proofs.YthiojdkhapbbnaaDoor

/- XDec08: block.Decode. (printed by gen_dec08.py) -/
namespace Go.Proofs.YthiojdkhapbbnaaDoor
open Go.RowKit
set_option linter.unusedVariables false

theorem infoPn : (Tryd.prog.info? 42).map (fun i => (i.zero, i.size, i.bytes)) = some (some (.agg #[.int .i64 0, .int .i64 0, .int .u64 0, .string .empty]), 4, 40) := by kernel_rfl
theorem pn_zeros (n : Nat) : (madeCells (Value.agg #[.int .i64 0, .int .i64 0, .int .u64 0, .string .empty]).cells (n * 4)).toList = (List.replicate n p0).flatMap Pn.cells := by
  have hc : (Value.agg #[.int .i64 0, .int .i64 0, .int .u64 0, .string .empty]).cells = #[.int .i64 0, .int .i64 0, .int .u64 0, .string .empty] := rfl
  rw [hc]
  induction n with
  | zero => simp [madeCells]
  | succ n ih =>
    rw [List.replicate_succ', List.flatMap_append, ← ih]
    have e : (n + 1) * 4 = n * 4 + 1 + 1 + 1 + 1 := by omega
    have m0 : n * 4 % 4 = 0 := by omega
    have m1 : (n * 4 + 1) % 4 = 1 := by omega
    have m2 : (n * 4 + 2) % 4 = 2 := by omega
    have m3 : (n * 4 + 3) % 4 = 3 := by omega
    rw [e]
    simp only [madeCells, Array.toList_map, Array.toList_range, List.range_succ, List.map_append, List.append_assoc]
    congr 1
    have s3 : (#[Value.int .i64 0, .int .i64 0, .int .u64 0, .string .empty] : Array Value).size = 4 := rfl
    simp only [List.map_cons, List.map_nil, s3, m0, m1, m2, m3]
    rfl
theorem set4_flat (u : Pn) : ∀ (V : List Pn) (k : Nat), k < V.length → ((((V.flatMap Pn.cells).set (k * 4) (.int .i64 u.t)).set (k * 4 + 1) (.int .i64 u.v.k)).set (k * 4 + 2) (.int .u64 (u.v.b : Int))).set (k * 4 + 3) (.string u.v.t) = (V.set k u).flatMap Pn.cells
  | [], _, h => by simp at h
  | v :: r, 0, _ => by simp [Pn.cells]
  | v :: r, k + 1, h => by
    have ih := set4_flat u r k (by simpa using h)
    rw [List.set_cons_succ, List.flatMap_cons, List.flatMap_cons, ← ih]
    rw [show (k + 1) * 4 = k * 4 + 4 by omega]
    simp [Pn.cells]
theorem own_set4 {w : World} {base g n : Nat} {V : List Pn} (h : w.ownsRow base 42 4 (.slice (some ⟨g, 0, none⟩) n n) n (V.flatMap Pn.cells)) (k : Nat) (u : Pn) (hk : k < V.length) :
    ((((w.setCell ⟨g, k * 4, none⟩ (.int .i64 u.t)).setCell ⟨g, k * 4 + 1, none⟩ (.int .i64 u.v.k)).setCell ⟨g, k * 4 + 2, none⟩ (.int .u64 (u.v.b : Int))).setCell ⟨g, k * 4 + 3, none⟩ (.string u.v.t)).ownsRow base 42 4 (.slice (some ⟨g, 0, none⟩) n n) n ((V.set k u).flatMap Pn.cells) := by
  have h1 := (h.stored (k * 4) (.int .i64 u.t)).1
  have h2 := (h1.stored (k * 4 + 1) (.int .i64 u.v.k)).1
  have h3 := (h2.stored (k * 4 + 2) (.int .u64 (u.v.b : Int))).1
  have h4 := (h3.stored (k * 4 + 3) (.string u.v.t)).1
  rw [set4_flat u V k hk] at h4
  exact h4
theorem own_get4 {w : World} {base g n : Nat} {V : List Pn} (h : w.ownsRow base 42 4 (.slice (some ⟨g, 0, none⟩) n n) n (V.flatMap Pn.cells)) (k : Nat) (hk : k < V.length) (hn : V.length = n) :
    w.cell? ⟨g, k * 4, none⟩ = some (.int .i64 (V.getD k p0).t) ∧ w.cell? ⟨g, k * 4 + 1, none⟩ = some (.int .i64 (V.getD k p0).v.k) ∧ w.cell? ⟨g, k * 4 + 2, none⟩ = some (.int .u64 ((V.getD k p0).v.b : Int)) ∧ w.cell? ⟨g, k * 4 + 3, none⟩ = some (.string (V.getD k p0).v.t) := by
  have e0 := flat_at Pn.cells 4 (fun _ => rfl) V k hk 0 (by omega)
  have e1 := flat_at Pn.cells 4 (fun _ => rfl) V k hk 1 (by omega)
  have e2 := flat_at Pn.cells 4 (fun _ => rfl) V k hk 2 (by omega)
  have e3 := flat_at Pn.cells 4 (fun _ => rfl) V k hk 3 (by omega)
  rw [getD_get V k p0 hk]
  refine ⟨?_, ?_, ?_, ?_⟩
  · rw [h.cellAt (k * 4) (by omega)]; exact e0
  · rw [h.cellAt (k * 4 + 1) (by omega)]; exact e1
  · rw [h.cellAt (k * 4 + 2) (by omega)]; exact e2
  · rw [h.cellAt (k * 4 + 3) (by omega)]; exact e3
theorem cut_at {w : World} {b0 off0 n cap : Nat} {b : List UInt8} (h : Rd w (.slice (some ⟨b0, off0, none⟩) n cap) b) (l m : Nat) (hl : l ≤ m) (hm : m ≤ n) (hc : cap ≠ l) {c : List UInt8} (he : c = (b.drop l).take (m - l)) :
    Rd w (.slice (some ⟨b0, off0 + l, none⟩) c.length (cap - l)) c := by
  obtain ⟨_, _, e, _, _⟩ := RdV.shape h.v
  simp only [Value.slice.injEq] at e
  obtain ⟨_, rfl, _⟩ := e
  obtain ⟨a5, c5, he5, hr5⟩ := h.cutN l m hl hm
  rw [← he, if_neg hc] at he5
  simp only [Option.map_some, Addr.add_lit, Value.slice.injEq, Nat.mul_one] at he5
  rw [← he] at hr5
  obtain ⟨rfl, _, rfl⟩ := he5
  exact hr5
theorem dcP_CdG {k n : Int} {b : List UInt8} (h : (dcP k n b).2 = 0) : CdG k n b (dcP k n b).1 := by
  by_cases hx : ∃ l, CdG k n b l
  · unfold dcP
    rw [dif_pos hx]
    exact hx.choose_spec
  · rw [dcP_bad (fun l hl => hx ⟨l, hl⟩)] at h
    simp at h
theorem dcP_no {k n : Int} {b : List UInt8} (h : (dcP k n b).2 ≠ 0) : (dcP k n b).2 = 2 ∧ ∀ l, ¬ CdG k n b l := by
  by_cases hx : ∃ l, CdG k n b l
  · unfold dcP at h
    rw [dif_pos hx] at h
    exact absurd rfl h
  · exact ⟨by rw [dcP_bad (fun l hl => hx ⟨l, hl⟩)], fun l hl => hx ⟨l, hl⟩⟩

set_option maxHeartbeats 600000 in
set_option maxRecDepth 100000 in
theorem decodeB_any (b : List UInt8) (v : Value) (w : World) (hl : b.length ≤ 140737488355328) (ht : Tab w) (hr : Rd w v b) :
    Calls Tryd.prog 13 #[v] w fun e w' => PdEnd b w e w' := by
  obtain ⟨ao0, cap0, rfl, hnc, hcm⟩ := RdV.shape hr
  unfold maxLen at hcm
  have HR := Lib.hid hr
  have HTB := Lib.hid ht
  clear hr ht
  by_cases h9 : b.length < 9
  · have HNO := Lib.hid (pdG_no_short h9)
    have h5 : (b.length : Int) - 4 < 5 := by omega
    go_enter Tryd.func13, Tryd.ntmps13
    go_upto_region 2 with fail
    go_quiet (fail)
    go_wp2_with fail
    go_ret2
    exact PdEnd.bad (below_drewN _) HNO.out
  · obtain ⟨m, hm⟩ : ∃ m, m = b.length - 4 := ⟨_, rfl⟩
    have hlo : ((b.length : Int) - 4) = (m : Int) := by omega
    have hle4 : m ≤ b.length := by omega
    have h5 : ¬ (m : Int) < 5 := by omega
    have HS := Lib.hid (sum_any (bodP b))
    have HTL := Lib.hid (fun w' => tailn_any (crc (bodP b)) 4 (by decide) (by decide) (by have := crc_lt (bodP b); omega) w')
    have HC1 : Hid (sumP b = b.drop m) := Lib.hid (by rw [hm]; rfl)
    have HC2 : Hid (bodP b = (b.drop 0).take (m - 0)) := Lib.hid (by rw [hm]; rfl)
    have HNS := Lib.hid (fun h => pdG_no_sum (b := b) h)
    obtain ⟨sb, hsb⟩ : ∃ x, x = sumP b := ⟨_, rfl⟩
    obtain ⟨bb, hbb⟩ : ∃ x, x = bodP b := ⟨_, rfl⟩
    obtain ⟨C, hC⟩ : ∃ x, x = crc bb := ⟨_, rfl⟩
    obtain ⟨cb, hcb⟩ : ∃ x, x = beN 4 C := ⟨_, rfl⟩
    have HSB := Lib.hid hsb
    have HBB := Lib.hid hbb
    have HCB : Hid (cb = beN 4 (crc (bodP b))) := Lib.hid (by rw [hcb, hC, hbb])
    rw [← hbb, ← hC, ← hcb] at HTL
    rw [← hbb, ← hC] at HS
    rw [← hsb] at HC1
    rw [← hbb] at HC2
    have hCl : C < 4294967296 := by rw [hC]; exact crc_lt _
    have hCw : IntKind.u64.wrap (C : Int) = (C : Int) := by rw [IntKind.wrap_u64]; omega
    clear hsb hbb hC hcb hm
    go_enter Tryd.func13, Tryd.ntmps13
    go_upto_region 2 with fail
    have hS : True := trivial
    have hB : Below w.heap.size w w.drew := (Below.refl _ _).drew
    refine wp_region_held_drew (S := fun _ => True) (by kernel_rfl) hS (fun hh => ?_)
    clear hh
    have K0 : Rd w.drew (.slice ao0 b.length cap0) b := HR.out
    generalize w.drew = x0 at *
    obtain ⟨ao1, cap1, he1, K1⟩ := K0.cutR m hle4
    obtain ⟨ao2, cap2, he2, K2⟩ := K0.cutN 0 m (Nat.zero_le _) hle4
    rw [← HC1.out] at he1 K1
    rw [← HC2.out] at he2 K2
    refine wpAnyH_take (i := 0) (oi := { dst := some 15, op := Op.move (Operand.tmp 4), type := 3, pos := "block.go:51", after := #[], guard := none }) (v := ?_) rfl (by kernel_rfl) (by kernel_rfl) (by kernel_rfl) (fun _ _ _ h => h) (Or.inl ⟨by rfl, ?_⟩) hS ?_
    rotate_left
    · intro w hSw; (try dsimp only at hSw); go_simp; try with_reducible rfl
    try simp only [Act.put, List.setIfInBounds_toArray, List.set_cons_zero, List.set_cons_succ]
    refine wpAnyH_take (i := 1) (oi := { dst := some 16, op := Op.binOp BinOp.lss 3 (Operand.tmp 15) (Operand.const (Value.int IntKind.i64 5)) 3, type := 4, pos := "block.go:51", after := #[{ on := 0, ground := Ground.data }], guard := none }) (v := ?_) rfl (by kernel_rfl) (by kernel_rfl) (by kernel_rfl) (fun _ _ _ h => h) (Or.inl ⟨by rfl, ?_⟩) hS ?_
    rotate_left
    · intro w hSw; (try dsimp only at hSw); go_simp; try with_reducible rfl
    try simp only [Act.put, List.setIfInBounds_toArray, List.set_cons_zero, List.set_cons_succ]
    refine wpAnyH_take (i := 2) (oi := { dst := some 17, op := Op.move (Operand.tmp 16), type := 4, pos := "block.go:51", after := #[{ on := 1, ground := Ground.data }], guard := none }) (v := ?_) rfl (by kernel_rfl) (by kernel_rfl) (by kernel_rfl) (fun _ _ _ h => h) (Or.inl ⟨by rfl, ?_⟩) hS ?_
    rotate_left
    · intro w hSw; (try dsimp only at hSw); go_simp; try with_reducible rfl
    try simp only [Act.put, List.setIfInBounds_toArray, List.set_cons_zero, List.set_cons_succ]
    refine wpAnyH_take (i := 3) (oi := { dst := some 18, op := Op.move (Operand.tmp 0), type := 24, pos := "block.go:51", after := #[{ on := 2, ground := Ground.guard }], guard := some (2, false) }) (v := ?_) rfl (by kernel_rfl) (by kernel_rfl) (by kernel_rfl) (fun _ _ _ h => h) (Or.inl ⟨by rfl, ?_⟩) hS ?_
    rotate_left
    · intro w hSw; (try dsimp only at hSw); go_simp; try with_reducible rfl
    try simp only [Act.put, List.setIfInBounds_toArray, List.set_cons_zero, List.set_cons_succ]
    refine wpAnyH_take (i := 4) (oi := { dst := some 19, op := Op.move (Operand.tmp 4), type := 3, pos := "block.go:51", after := #[{ on := 2, ground := Ground.guard }], guard := some (2, false) }) (v := ?_) rfl (by kernel_rfl) (by kernel_rfl) (by kernel_rfl) (fun _ _ _ h => h) (Or.inl ⟨by rfl, ?_⟩) hS ?_
    rotate_left
    · intro w hSw; (try dsimp only at hSw); go_simp; try with_reducible rfl
    try simp only [Act.put, List.setIfInBounds_toArray, List.set_cons_zero, List.set_cons_succ]
    refine wpAnyH_take (i := 5) (oi := { dst := some 20, op := Op.slice 24 (Operand.tmp 18) (some (Operand.tmp 19)) none none, type := 24, pos := "block.go:51", after := #[{ on := 3, ground := Ground.data }, { on := 4, ground := Ground.data }, { on := 2, ground := Ground.guard }], guard := some (2, false) }) (v := .slice ao1 sb.length cap1) rfl (by kernel_rfl) (by kernel_rfl) (by kernel_rfl) (fun _ _ _ h => h) (yields_slice (by rfl) (.tmp 18) (some (.tmp 19)) none 24 rfl 5 1 (.int .u8 0) 1 Tryd.underlying24 infoU8 ao0 b.length cap0 rfl m b.length (fun w => bounds_lo _ _ .i64 m hle4) _ he1.symm) hS ?_
    try simp only [Act.put, List.setIfInBounds_toArray, List.set_cons_zero, List.set_cons_succ]
    refine wpAnyH_take (i := 6) (oi := { dst := some 21, op := Op.move (Operand.tmp 0), type := 24, pos := "block.go:51", after := #[{ on := 2, ground := Ground.guard }], guard := some (2, false) }) (v := ?_) rfl (by kernel_rfl) (by kernel_rfl) (by kernel_rfl) (fun _ _ _ h => h) (Or.inl ⟨by rfl, ?_⟩) hS ?_
    rotate_left
    · intro w hSw; (try dsimp only at hSw); go_simp; try with_reducible rfl
    try simp only [Act.put, List.setIfInBounds_toArray, List.set_cons_zero, List.set_cons_succ]
    refine wpAnyH_take (i := 7) (oi := { dst := some 22, op := Op.move (Operand.tmp 4), type := 3, pos := "block.go:51", after := #[{ on := 2, ground := Ground.guard }], guard := some (2, false) }) (v := ?_) rfl (by kernel_rfl) (by kernel_rfl) (by kernel_rfl) (fun _ _ _ h => h) (Or.inl ⟨by rfl, ?_⟩) hS ?_
    rotate_left
    · intro w hSw; (try dsimp only at hSw); go_simp; try with_reducible rfl
    try simp only [Act.put, List.setIfInBounds_toArray, List.set_cons_zero, List.set_cons_succ]
    refine wpAnyH_take (i := 8) (oi := { dst := some 23, op := Op.slice 24 (Operand.tmp 21) none (some (Operand.tmp 22)) none, type := 24, pos := "block.go:51", after := #[{ on := 6, ground := Ground.data }, { on := 7, ground := Ground.data }, { on := 2, ground := Ground.guard }], guard := some (2, false) }) (v := .slice ao2 bb.length cap2) rfl (by kernel_rfl) (by kernel_rfl) (by kernel_rfl) (fun _ _ _ h => h) (yields_slice (by rfl) (.tmp 21) none (some (.tmp 22)) 24 rfl 5 1 (.int .u8 0) 1 Tryd.underlying24 infoU8 ao0 b.length cap0 rfl 0 m (fun w => bounds_hi _ _ .i64 m (by omega)) _ he2.symm) hS ?_
    try simp only [Act.put, List.setIfInBounds_toArray, List.set_cons_zero, List.set_cons_succ]
    refine wpAnyH_ready (rs := [9]) (by kernel_rfl) (by simp) (AllReadyH.cons (o := { dst := some 24, op := Op.call { callee := Callee.value (Operand.func 11), args := #[Operand.tmp 23], argTypes := #[24] }, type := 29, pos := "block.go:51", after := #[{ on := 8, ground := Ground.data }, { on := 2, ground := Ground.chain }, { on := 2, ground := Ground.guard }], guard := some (2, false) }) rfl (fun K hK => ?_) AllReadyH.nil)
    go_simp
    go_at_call 11
    refine (HS.out _ _ K2).mono ?_
    rintro _ x1 ⟨rfl, q, hw⟩
    have hb : Below x0.heap.size x0 x1 := by rw [hw]; exact below_drewN _
    replace K0 := RdV.below K0 hb
    replace K1 := RdV.below K1 hb
    replace hB := hB.trans (hb.mono hB.size)
    clear hw hb K2
    dsimp only
    refine hK.out _ _ hS (fun hh => ?_)
    clear hK K hh
    try simp only [Act.put, List.setIfInBounds_toArray, List.set_cons_zero, List.set_cons_succ]
    refine wpAnyH_take (i := 10) (oi := { dst := some 25, op := Op.convert 29 38 (Operand.tmp 24), type := 38, pos := "block.go:51", after := #[{ on := 9, ground := Ground.data }, { on := 2, ground := Ground.guard }], guard := some (2, false) }) (v := ?_) rfl (by kernel_rfl) (by kernel_rfl) (by kernel_rfl) (fun _ _ _ h => h) (Or.inl ⟨by rfl, ?_⟩) hS ?_
    rotate_left
    · intro w hSw; (try dsimp only at hSw); go_simp; try with_reducible rfl
    try simp only [Act.put, List.setIfInBounds_toArray, List.set_cons_zero, List.set_cons_succ]
    refine wpAnyH_ready (rs := [11]) (by kernel_rfl) (by simp) (AllReadyH.cons (o := { dst := some 26, op := Op.call { callee := Callee.value (Operand.func 23), args := #[Operand.tmp 25, Operand.const (Value.int IntKind.i64 4)], argTypes := #[38, 3] }, type := 24, pos := "block.go:51", after := #[{ on := 10, ground := Ground.data }, { on := 9, ground := Ground.chain }, { on := 2, ground := Ground.guard }], guard := some (2, false) }) rfl (fun K hK => ?_) AllReadyH.nil)
    go_simp
    go_at_call 23
    refine (HTL.out _).mono ?_
    rintro _ x2 ⟨ao3, cap3, rfl, hn, hb⟩
    have K3 := hn.rd
    replace K0 := RdV.below K0 hb
    replace K1 := RdV.below K1 hb
    replace hB := hB.trans (hb.mono hB.size)
    clear hn hb
    dsimp only
    refine hK.out _ _ hS (fun hh => ?_)
    clear hK K hh
    try simp only [Act.put, List.setIfInBounds_toArray, List.set_cons_zero, List.set_cons_succ]
    refine wpAnyH_ready (rs := [12]) (by kernel_rfl) (by simp) (AllReadyH.cons (o := { dst := some 27, op := Op.call { callee := Callee.value (Operand.func 24), args := #[Operand.tmp 20, Operand.tmp 26], argTypes := #[24, 24] }, type := 4, pos := "block.go:51", after := #[{ on := 5, ground := Ground.data }, { on := 11, ground := Ground.data }, { on := 11, ground := Ground.chain }, { on := 2, ground := Ground.guard }], guard := some (2, false) }) rfl (fun K hK => ?_) AllReadyH.nil)
    go_simp
    go_at_call 24
    refine (bytesEqual_any sb cb _ _ x2 K1 K3).mono ?_
    rintro _ x3 ⟨rfl, hw⟩
    have hb : Below x2.heap.size x2 x3 := by rw [hw]; exact Below.refl _ _
    replace K0 := RdV.below K0 hb
    replace hB := hB.trans (hb.mono hB.size)
    clear hw hb K1 K3
    dsimp only
    refine hK.out _ _ hS (fun hh => ?_)
    clear hK K hh
    try simp only [Act.put, List.setIfInBounds_toArray, List.set_cons_zero, List.set_cons_succ]
    refine wpAnyH_take (i := 13) (oi := { dst := some 28, op := Op.unOp UnOp.not 4 (Operand.tmp 27), type := 4, pos := "block.go:51", after := #[{ on := 12, ground := Ground.data }, { on := 2, ground := Ground.guard }], guard := some (2, false) }) (v := ?_) rfl (by kernel_rfl) (by kernel_rfl) (by kernel_rfl) (fun _ _ _ h => h) (Or.inl ⟨by rfl, ?_⟩) hS ?_
    rotate_left
    · intro w hSw; (try dsimp only at hSw); go_simp; try with_reducible rfl
    try simp only [Act.put, List.setIfInBounds_toArray, List.set_cons_zero, List.set_cons_succ]
    refine wpAnyH_take (i := 14) (oi := { dst := some 29, op := Op.pick (Operand.tmp 17) (Operand.const (Value.bool true)) (Operand.tmp 28), type := 4, pos := "block.go:51", after := #[{ on := 2, ground := Ground.data }, { on := 13, ground := Ground.data }], guard := none }) (v := ?_) rfl (by kernel_rfl) (by kernel_rfl) (by kernel_rfl) (fun _ _ _ h => h) (Or.inl ⟨by rfl, ?_⟩) hS ?_
    rotate_left
    · intro w hSw; (try dsimp only at hSw); go_simp; try with_reducible rfl
    try simp only [Act.put, List.setIfInBounds_toArray, List.set_cons_zero, List.set_cons_succ]
    refine wpAnyH_done (by kernel_rfl) ?_ _
    by_cases hsc : sb = cb
    · have hse : (sb == cb) = true := by simp [hsc]
      have HSE : Hid (sumP b = beN 4 (crc (bodP b))) := Lib.hid (by rw [← HSB.out, ← HCB.out]; exact hsc)
      rw [hse]
      clear hsc hse he1 he2 HS HTL HC1 HC2 HSB HBB HCB hCl hCw HNS
      have KH := Lib.hid K0
      have HB := Lib.hid hB
      have HM : Hid (m + 4 = b.length) := Lib.hid (by omega)
      have hm5 : 5 ≤ m := by omega
      clear K0 hB hS hlo h5
      obtain ⟨c, hc⟩ : ∃ c, c = (b.drop 1).take (5 - 1) := ⟨_, rfl⟩
      have hcl : c.length = 4 := by rw [hc, List.length_take, List.length_drop]; omega
      have hcn : gV c 0 false 32 = nP b := by
        have h := (gV_bytes c 0 4 (by omega)).1
        have e : rdN 4 (c.drop 0) = nP b := by unfold nP rdN; rw [hc, List.drop_zero, List.take_take]; rfl
        exact h.trans e
      have HCN := Lib.hid hcn
      have HC := Lib.hid hc
      have hle5 : 1 ≤ 5 := by decide
      have hb5 : 5 ≤ b.length := by omega
      clear hc hcn
      obtain ⟨b0, off0, cp0, he0, _, _, hb0, _⟩ := RdV.some KH.out (by omega) (by decide)
      simp only [Value.slice.injEq, true_and] at he0
      obtain ⟨rfl, rfl⟩ := he0
      have hcv : Rd x3 (.slice (some ⟨b0, off0 + 1, none⟩) c.length (cap0 - 1)) c := by
        obtain ⟨a5, c5, he5, hr5⟩ := (show Rd x3 (.slice (some ⟨b0, off0, none⟩) b.length cap0) b from KH.out).cutN 1 5 hle5 hb5
        rw [← HC.out, hcl, if_neg (by omega)] at he5
        simp only [Option.map_some, Addr.add_lit, Value.slice.injEq] at he5
        rw [← HC.out] at hr5
        obtain ⟨rfl, _, rfl⟩ := he5
        exact hr5
      have hnr := newReader_any _ c x3 (by omega) hcv
      rw [hcl] at hnr
      clear hcv
      simp only [Bool.not_true]
      go_upto_region 5 with (first
        | (go_at_call 25; refine hnr.mono ?_; rintro _ w4 ⟨blk, rfl, hr4, hb4⟩; have hgt := get_all _ _ _ _ _ _ 32 (by decide) (by decide) _ hr4; have hlo4 := hr4.lo; have HB4 := Lib.hid hb4; clear hnr hb4 hr4)
        | (go_at_call 26; refine hgt.mono ?_; rintro _ w5 ⟨rfl, _, hc5⟩; rw [HCN.out]; have HB5 := Lib.hid (show Below x3.heap.size x3 w5 from HB4.out.trans (hc5.below HB4.out.size (fun k hk => by rw [hk]; exact hlo4))); clear hgt hc5 hlo4))
      have HNL : Hid (nP b < 4294967296) := Lib.hid (nP_lt b)
      obtain ⟨N, hN⟩ : ∃ N, N = nP b := ⟨_, rfl⟩
      have HNP := Lib.hid hN
      have hNl : N < 4294967296 := by rw [hN]; exact HNL.out
      rw [← hN]
      rw [← hN] at HCN
      clear hN
      have hm5w : IntKind.u64.wrap ((m : Int) - 5) = ((m - 5 : Nat) : Int) := by rw [IntKind.wrap_u64]; omega
      by_cases hNm : N ≤ m - 5
      · have hNi : ¬ ((m - 5 : Nat) : Int) < (N : Int) := by omega
        have hTl : (tP b).length = N := by unfold tP; rw [← HNP.out, List.length_take, List.length_drop]; have := HM.out; omega
        have K5 := Lib.hid (show Rd w5 (.slice (some ⟨b0, off0, none⟩) b.length cap0) b from RdV.below KH.out HB5.out)
        have hT := cut_at K5.out 5 (5 + N) (by omega) (by have := HM.out; omega) (by omega) (c := tP b) (by unfold tP; rw [← HNP.out]; congr 1; omega)
        have hV := fun w' (h : Rd w' (.slice (some ⟨b0, off0, none⟩) b.length cap0) b) => cut_at h (5 + N) m (by omega) (by have := HM.out; omega) (by have := HM.out; omega) (c := vP b) (by unfold vP; rw [← HNP.out]; congr 1; have := HM.out; omega)
        have hVl : (vP b).length = m - (5 + N) := by unfold vP; rw [← HNP.out, List.length_take, List.length_drop]; have := HM.out; omega
        have HV := Lib.hid hV
        have HVL := Lib.hid hVl
        have hD := decode_any (tP b) _ w5 (by omega) hT
        rw [hTl] at hD
        clear hT hTl hV hVl
        have HB6 := Lib.hid (HB.out.trans (HB5.out.mono HB.out.size))
        cases hdt : decS (tP b) with
        | none =>
          have HNO := Lib.hid (pdG_no_t (b := b) hdt)
          go_upto_region 8 with (go_at_call 27; refine hD.mono ?_; rintro e w6 ⟨hb6, h⟩; rw [hdt] at h; rcases h with ⟨_, rfl⟩ | ⟨_, _, _, h, _⟩; have HB7 := Lib.hid (HB6.out.trans (hb6.mono HB6.out.size)); clear hb6 hD; rotate_left 1; cases h)
          clear hdt
          go_wp2_with fail
          go_ret2
          exact PdEnd.bad HB7.out HNO.out
        | some t =>
          have HDT := Lib.hid hdt
          clear hdt
          have hT0 := HTB.out.below HB6.out
          go_upto_region 8 with (go_at_call 27; refine hD.mono ?_; rintro e w6 ⟨hb6, h⟩; rw [HDT.out] at h; rcases h with ⟨h, _⟩ | ⟨t2, tao, tcap, h, rfl, hts⟩; cases h; obtain rfl : t = t2 := (by simpa using h); have HB7 := Lib.hid (HB6.out.trans (hb6.mono HB6.out.size)); have HTS := Lib.hid hts; have K6 := Lib.hid (show Rd w6 (.slice (some ⟨b0, off0, none⟩) b.length cap0) b from RdV.below K5.out hb6); have HT6 := Lib.hid (hT0.below hb6); have H56 := Lib.hid hb6.size; clear hb6 hD h hts hT0)
          have htl := encS_short (decS_some HDT.out).1
          have HTL := Lib.hid htl
          have hCD := fun w' (h1 : Tab w') (h2 : Rd w' (.slice (some ⟨b0, off0, none⟩) b.length cap0) b) => decodeC_any (kP b : Int) (t.length : Int) (vP b) _ w' (by unfold i64ok; have := kP_lt b; omega) (by unfold i64ok; omega) (by rw [HVL.out]; omega) h1 (HV.out w' h2)
          have hb0c : w6.cell? ⟨b0, off0, none⟩ = some (.int .u8 (kP b : Int)) := by
            obtain ⟨b1, o1, c1, h1, h2⟩ := rdOne K6.out 0 (by omega)
            simp only [Value.slice.injEq, Option.some.injEq, Addr.mk.injEq] at h1
            obtain ⟨⟨rfl, rfl, _⟩, _, rfl⟩ := h1
            rw [Nat.add_zero] at h2
            rw [h2]
            unfold kP
            rw [getD_get b 0 0 (by omega)]
          have hkl := kP_lt b
          obtain ⟨p, hp⟩ : ∃ p, p = dcP (kP b : Int) (t.length : Int) (vP b) := ⟨_, rfl⟩
          have HP := Lib.hid hp
          have HKL := Lib.hid (show kP b = kP b from rfl)
          clear hp htl
          have HK0 : ∃ k, k = kP b := ⟨_, rfl⟩
          obtain ⟨k, hk⟩ := HK0
          have HKP := Lib.hid hk
          rw [← hk] at hCD hb0c hkl
          have HP2 : Hid (p = dcP (k : Int) (t.length : Int) (vP b)) := Lib.hid (by rw [hk]; exact HP.out)
          clear hk HKL HP
          go_upto_region 10 with fail
          have h0b : 0 < b.length := by omega
          have hm4 := HM.out
          have h5N : IntKind.u64.wrap (5 + (N : Int)) = 5 + (N : Int) := by rw [IntKind.wrap_u64]; omega
          have h5t : (5 + (N : Int)).toNat = 5 + N := by omega
          have hkw : IntKind.i64.wrap (k : Int) = (k : Int) := IntWalk.i64_in _ (by omega)
          have h0n : 0 ≤ 5 + (N : Int) := by omega
          have hmc : m ≤ cap0 := by omega
          have h5m : 5 + (N : Int) ≤ (m : Int) := by omega
          have hcN : ¬ cap0 = 5 + N := by omega
          clear hm4
          have hlt : b0 < w6.drew.heap.size := Nat.lt_of_lt_of_le hb0 (Nat.le_trans HB5.out.size (show w5.heap.size ≤ w6.heap.size from H56.out))
          have hS : w6.drew.cell? ⟨b0, off0, none⟩ = some (.int .u8 (k : Int)) := hb0c
          have hC7 := hCD w6.drew (HT6.out.below (Below.refl _ _).drew) K6.out
          have hB7 : Below w.heap.size w w6.drew := HB7.out.drew
          have hT7 : Tms w6.drew (.slice tao t.length tcap) t := HTS.out
          rw [HVL.out] at hC7
          refine wp_region_held_drew (S := fun wz => wz.cell? ⟨b0, off0, none⟩ = some (.int .u8 (k : Int))) (by kernel_rfl) hS (fun hh => ?_)
          clear hh hCD hb0c
          generalize w6.drew = x0 at *
          refine wpAnyH_take (i := 0) (oi := { dst := some 51, op := Op.move (Operand.tmp 0), type := 24, pos := "block.go:62", after := #[], guard := none }) (v := ?_) rfl (by kernel_rfl) (by kernel_rfl) (by kernel_rfl) (fun _ _ _ h => h) (Or.inl ⟨by rfl, ?_⟩) hS ?_
          rotate_left
          · intro w hSw; (try dsimp only at hSw); go_simp; try with_reducible rfl
          try simp only [Act.put, List.setIfInBounds_toArray, List.set_cons_zero, List.set_cons_succ]
          refine wpAnyH_take (i := 1) (oi := { dst := some 52, op := Op.indexAddr 24 (Operand.tmp 51) (Operand.const (Value.int IntKind.i64 0)), type := 0, pos := "block.go:62", after := #[{ on := 0, ground := Ground.data }], guard := none }) (v := ?_) rfl (by kernel_rfl) (by kernel_rfl) (by kernel_rfl) (fun _ _ _ h => h) (Or.inl ⟨by rfl, ?_⟩) hS ?_
          rotate_left
          · intro w hSw; (try dsimp only at hSw); go_simp; try with_reducible rfl
          try simp only [Act.put, List.setIfInBounds_toArray, List.set_cons_zero, List.set_cons_succ]
          refine wpAnyH_take (i := 2) (oi := { dst := some 53, op := Op.load 5 (Operand.tmp 52), type := 5, pos := "block.go:62", after := #[{ on := 1, ground := Ground.data }], guard := none }) (v := ?_) rfl (by kernel_rfl) (by kernel_rfl) (by kernel_rfl) (fun _ _ _ h => h) (Or.inl ⟨by rfl, ?_⟩) hS ?_
          rotate_left
          · intro w hSw; (try dsimp only at hSw); go_simp; try with_reducible rfl
          try simp only [Act.put, List.setIfInBounds_toArray, List.set_cons_zero, List.set_cons_succ]
          refine wpAnyH_take (i := 3) (oi := { dst := some 54, op := Op.convert 5 3 (Operand.tmp 53), type := 3, pos := "block.go:62", after := #[{ on := 2, ground := Ground.data }], guard := none }) (v := ?_) rfl (by kernel_rfl) (by kernel_rfl) (by kernel_rfl) (fun _ _ _ h => h) (Or.inl ⟨by rfl, ?_⟩) hS ?_
          rotate_left
          · intro w hSw; (try dsimp only at hSw); go_simp; try with_reducible rfl
          try simp only [Act.put, List.setIfInBounds_toArray, List.set_cons_zero, List.set_cons_succ]
          refine wpAnyH_take (i := 4) (oi := { dst := some 55, op := Op.move (Operand.tmp 6), type := 47, pos := "block.go:62", after := #[], guard := none }) (v := ?_) rfl (by kernel_rfl) (by kernel_rfl) (by kernel_rfl) (fun _ _ _ h => h) (Or.inl ⟨by rfl, ?_⟩) hS ?_
          rotate_left
          · intro w hSw; (try dsimp only at hSw); go_simp; try with_reducible rfl
          try simp only [Act.put, List.setIfInBounds_toArray, List.set_cons_zero, List.set_cons_succ]
          refine wpAnyH_take (i := 5) (oi := { dst := some 56, op := Op.call { callee := Callee.builtin Builtin.len, args := #[Operand.tmp 55], argTypes := #[47] }, type := 3, pos := "block.go:62", after := #[{ on := 4, ground := Ground.data }], guard := none }) (v := ?_) rfl (by kernel_rfl) (by kernel_rfl) (by kernel_rfl) (fun _ _ _ h => h) (Or.inl ⟨by rfl, ?_⟩) hS ?_
          rotate_left
          · intro w hSw; (try dsimp only at hSw); go_simp; try with_reducible rfl
          try simp only [Act.put, List.setIfInBounds_toArray, List.set_cons_zero, List.set_cons_succ]
          refine wpAnyH_take (i := 6) (oi := { dst := some 57, op := Op.move (Operand.tmp 0), type := 24, pos := "block.go:62", after := #[], guard := none }) (v := ?_) rfl (by kernel_rfl) (by kernel_rfl) (by kernel_rfl) (fun _ _ _ h => h) (Or.inl ⟨by rfl, ?_⟩) hS ?_
          rotate_left
          · intro w hSw; (try dsimp only at hSw); go_simp; try with_reducible rfl
          try simp only [Act.put, List.setIfInBounds_toArray, List.set_cons_zero, List.set_cons_succ]
          refine wpAnyH_take (i := 7) (oi := { dst := some 58, op := Op.move (Operand.tmp 5), type := 38, pos := "block.go:62", after := #[], guard := none }) (v := ?_) rfl (by kernel_rfl) (by kernel_rfl) (by kernel_rfl) (fun _ _ _ h => h) (Or.inl ⟨by rfl, ?_⟩) hS ?_
          rotate_left
          · intro w hSw; (try dsimp only at hSw); go_simp; try with_reducible rfl
          try simp only [Act.put, List.setIfInBounds_toArray, List.set_cons_zero, List.set_cons_succ]
          refine wpAnyH_take (i := 8) (oi := { dst := some 59, op := Op.binOp BinOp.add 38 (Operand.const (Value.int IntKind.u64 5)) (Operand.tmp 58) 38, type := 38, pos := "block.go:62", after := #[{ on := 7, ground := Ground.data }], guard := none }) (v := ?_) rfl (by kernel_rfl) (by kernel_rfl) (by kernel_rfl) (fun _ _ _ h => h) (Or.inl ⟨by rfl, ?_⟩) hS ?_
          rotate_left
          · intro w hSw; (try dsimp only at hSw); go_simp; try with_reducible rfl
          try simp only [Act.put, List.setIfInBounds_toArray, List.set_cons_zero, List.set_cons_succ]
          refine wpAnyH_take (i := 9) (oi := { dst := some 60, op := Op.move (Operand.tmp 4), type := 3, pos := "block.go:62", after := #[], guard := none }) (v := ?_) rfl (by kernel_rfl) (by kernel_rfl) (by kernel_rfl) (fun _ _ _ h => h) (Or.inl ⟨by rfl, ?_⟩) hS ?_
          rotate_left
          · intro w hSw; (try dsimp only at hSw); go_simp; try with_reducible rfl
          try simp only [Act.put, List.setIfInBounds_toArray, List.set_cons_zero, List.set_cons_succ]
          refine wpAnyH_take (i := 10) (oi := { dst := some 61, op := Op.slice 24 (Operand.tmp 57) (some (Operand.tmp 59)) (some (Operand.tmp 60)) none, type := 24, pos := "block.go:62", after := #[{ on := 6, ground := Ground.data }, { on := 8, ground := Ground.data }, { on := 9, ground := Ground.data }], guard := none }) (v := ?_) rfl (by kernel_rfl) (by kernel_rfl) (by kernel_rfl) (fun _ _ _ h => h) (Or.inl ⟨by rfl, ?_⟩) hS ?_
          rotate_left
          · intro w hSw; (try dsimp only at hSw); go_simp; try with_reducible rfl
          try simp only [Act.put, List.setIfInBounds_toArray, List.set_cons_zero, List.set_cons_succ]
          refine wpAnyH_ready (rs := [11]) (by kernel_rfl) (by simp) (AllReadyH.cons (o := { dst := some 62, op := Op.call { callee := Callee.value (Operand.func 28), args := #[Operand.tmp 54, Operand.tmp 56, Operand.tmp 61], argTypes := #[3, 3, 24] }, type := 60, pos := "block.go:62", after := #[{ on := 3, ground := Ground.data }, { on := 5, ground := Ground.data }, { on := 10, ground := Ground.data }], guard := none }) rfl (fun K hK => ?_) AllReadyH.nil)
          go_simp
          go_at_call 28
          refine hC7.mono ?_
          rintro e y1 ⟨hb7, hu7, ao7, cap7, rfl, hv7⟩
          rw [← HP2.out] at hv7 ⊢
          have HB8 := Lib.hid (hB7.trans (hb7.mono hB7.size))
          have HV8 := Lib.hid hv7
          have HU := Lib.hid hu7
          have HT8 := Lib.hid (show Tms y1 (.slice tao t.length tcap) t from RdV.below hT7 hb7)
          replace hS : y1.cell? ⟨b0, off0, none⟩ = some (.int .u8 (k : Int)) := ((Chg.ofBelowAny (S := fun _ => False) hb7).cell (p := ⟨b0, off0, none⟩) hlt (fun h => h)).trans hS
          clear hb7 hv7 hu7 hC7 hB7 hT7
          dsimp only
          refine hK.out _ _ hS (fun hh => ?_)
          clear hK K hh
          try simp only [Act.put, List.setIfInBounds_toArray, List.set_cons_zero, List.set_cons_succ]
          refine wpAnyH_take (i := 12) (oi := { dst := some 50, op := Op.move (Operand.tmp 62), type := 60, pos := "block.go:62", after := #[{ on := 11, ground := Ground.data }], guard := none }) (v := ?_) rfl (by kernel_rfl) (by kernel_rfl) (by kernel_rfl) (fun _ _ _ h => h) (Or.inl ⟨by rfl, ?_⟩) hS ?_
          rotate_left
          · intro w hSw; (try dsimp only at hSw); go_simp; try with_reducible rfl
          try simp only [Act.put, List.setIfInBounds_toArray, List.set_cons_zero, List.set_cons_succ]
          refine wpAnyH_take (i := 13) (oi := { dst := some 63, op := Op.extract (Operand.tmp 50) 0, type := 48, pos := "block.go:62", after := #[{ on := 12, ground := Ground.data }], guard := none }) (v := ?_) rfl (by kernel_rfl) (by kernel_rfl) (by kernel_rfl) (fun _ _ _ h => h) (Or.inl ⟨by rfl, ?_⟩) hS ?_
          rotate_left
          · intro w hSw; (try dsimp only at hSw); go_simp; try with_reducible rfl
          try simp only [Act.put, List.setIfInBounds_toArray, List.set_cons_zero, List.set_cons_succ]
          refine wpAnyH_take (i := 14) (oi := { dst := some 64, op := Op.extract (Operand.tmp 50) 1, type := 25, pos := "block.go:62", after := #[{ on := 12, ground := Ground.data }, { on := 15, ground := Ground.gcOnly Departure.lateStores }], guard := none }) (v := ?_) rfl (by kernel_rfl) (by kernel_rfl) (by kernel_rfl) (fun _ _ _ h => h) (Or.inl ⟨by rfl, ?_⟩) hS ?_
          rotate_left
          · intro w hSw; (try dsimp only at hSw); go_simp; try with_reducible rfl
          try simp only [Act.put, List.setIfInBounds_toArray, List.set_cons_zero, List.set_cons_succ]
          refine wpAnyH_take (i := 15) (oi := { dst := some 8, op := Op.assign (Operand.tmp 63), type := 48, pos := "block.go:62", after := #[{ on := 13, ground := Ground.data }, { on := 11, ground := Ground.chain }, { on := 0, ground := Ground.phase }, { on := 1, ground := Ground.phase }, { on := 2, ground := Ground.phase }, { on := 3, ground := Ground.phase }, { on := 4, ground := Ground.phase }, { on := 5, ground := Ground.phase }, { on := 6, ground := Ground.phase }, { on := 7, ground := Ground.phase }, { on := 8, ground := Ground.phase }, { on := 9, ground := Ground.phase }, { on := 10, ground := Ground.phase }, { on := 11, ground := Ground.phase }, { on := 12, ground := Ground.phase }, { on := 13, ground := Ground.phase }, { on := 14, ground := Ground.textOnly Departure.lateStores }], guard := none }) (v := ?_) rfl (by kernel_rfl) (by kernel_rfl) (by kernel_rfl) (fun _ _ _ h => h) (Or.inl ⟨by rfl, ?_⟩) hS ?_
          rotate_left
          · intro w hSw; (try dsimp only at hSw); go_simp; try with_reducible rfl
          try simp only [Act.put, List.setIfInBounds_toArray, List.set_cons_zero, List.set_cons_succ]
          refine wpAnyH_take (i := 16) (oi := { dst := some 7, op := Op.assign (Operand.tmp 64), type := 25, pos := "block.go:62", after := #[{ on := 14, ground := Ground.data }, { on := 15, ground := Ground.chain }, { on := 0, ground := Ground.phase }, { on := 1, ground := Ground.phase }, { on := 2, ground := Ground.phase }, { on := 3, ground := Ground.phase }, { on := 4, ground := Ground.phase }, { on := 5, ground := Ground.phase }, { on := 6, ground := Ground.phase }, { on := 7, ground := Ground.phase }, { on := 8, ground := Ground.phase }, { on := 9, ground := Ground.phase }, { on := 10, ground := Ground.phase }, { on := 11, ground := Ground.phase }, { on := 12, ground := Ground.phase }, { on := 13, ground := Ground.phase }, { on := 14, ground := Ground.phase }, { on := 15, ground := Ground.phase }], guard := none }) (v := ?_) rfl (by kernel_rfl) (by kernel_rfl) (by kernel_rfl) (fun _ _ _ h => h) (Or.inl ⟨by rfl, ?_⟩) hS ?_
          rotate_left
          · intro w hSw; (try dsimp only at hSw); go_simp; try with_reducible rfl
          try simp only [Act.put, List.setIfInBounds_toArray, List.set_cons_zero, List.set_cons_succ]
          refine wpAnyH_done (by kernel_rfl) ?_ _
          clear hS hlt h5N h5t hkw h0n hmc h5m hcN h0b
          have hen : (zipP t p.1).length = (zipP t p.1).length := rfl
          clear hen
          by_cases hm0 : p.2 = 0
          · obtain ⟨vs, e0⟩ := p
            dsimp only at hm0
            subst hm0
            dsimp only at *
            have HCG : Hid (CdG (k : Int) (t.length : Int) (vP b) vs) := Lib.hid (by
              have h := dcP_CdG (k := (k : Int)) (n := (t.length : Int)) (b := vP b) (by rw [← HP2.out])
              rw [← HP2.out] at h
              exact h)
            have hvl : vs.length = t.length := by have := HCG.out.2.1; omega
            have HGD := Lib.hid (pdG_of (b := b) (t := t) (vs := vs) (by omega) HSE.out (by rw [← HNP.out]; have := HM.out; omega) HDT.out (by rw [← HKP.out]; exact HCG.out) (fun l' h' => HU.out vs l' HCG.out (by rw [HKP.out]; exact h')))
            have HLZ := Lib.hid (show (zipP t vs).length = t.length from zipP_len hvl.symm)
            have HVLn := Lib.hid hvl
            have HTN := Lib.hid HTL.out.2.2
            have HTN0 := Lib.hid HTL.out.2.1
            rw [hvl]
            have HV9 : Hid (Vals y1 (.slice ao7 t.length cap7) vs) := Lib.hid (by have := HV8.out; rw [hvl] at this; exact this)
            clear hvl HV8 HU HCG HDT HSE HNP HKP HP2 HV HVL HR HTB HB HM HC KH HB5 HB4 HNL HCN K5 HB6 HB7 HTS K6 HT6 H56 HTL
            obtain ⟨n, hn⟩ : ∃ n, n = t.length := ⟨_, rfl⟩
            have hn0 : 0 < n := by have := HTN0.out; omega
            have hn1 : n ≤ 1000 := by have := HTN.out; omega
            obtain ⟨tb, tf, tc, het, _, _, htb, htc⟩ := RdV.some HT8.out (by omega) (by decide)
            simp only [Value.slice.injEq, true_and] at het
            obtain ⟨rfl, rfl⟩ := het
            obtain ⟨vb, vf, vc, hev, _, _, hvb, hvc⟩ := RdV.some HV9.out (by have := HVLn.out; omega) (by decide)
            simp only [Value.slice.injEq] at hev
            obtain ⟨rfl, _, rfl⟩ := hev
            have HTC : Hid (∀ j, j < n → y1.cell? ⟨tb, tf + j, none⟩ = some (.int .i64 ((zipP t vs).getD j p0).t)) := Lib.hid (fun j hj => htc j _ (by
              have h1 : (zipP t vs)[j]? = some ((zipP t vs).getD j p0) := by rw [getD_get _ _ _ (by rw [HLZ.out]; omega)]; exact List.getElem?_eq_getElem _
              have h2 := congrArg (fun l => l[j]?) (tsP_zip (t := t) (v := vs) HVLn.out.symm)
              simp only [tsP, List.getElem?_map, h1, Option.map_some] at h2
              rw [List.getElem?_map, ← h2]
              rfl))
            have HVC : Hid (∀ j, j < n → y1.cell? ⟨vb, vf + j * 3, none⟩ = some (.int .i64 ((zipP t vs).getD j p0).v.k) ∧ y1.cell? ⟨vb, vf + j * 3 + 1, none⟩ = some (.int .u64 (((zipP t vs).getD j p0).v.b : Int)) ∧ y1.cell? ⟨vb, vf + j * 3 + 2, none⟩ = some (.string ((zipP t vs).getD j p0).v.t)) := Lib.hid (fun j hj => by
              have hj2 : j < vs.length := by rw [HVLn.out]; omega
              have h1 : (zipP t vs)[j]? = some ((zipP t vs).getD j p0) := by rw [getD_get _ _ _ (by rw [HLZ.out]; omega)]; exact List.getElem?_eq_getElem _
              have h2 := congrArg (fun l => l[j]?) (vsP_zip (t := t) (v := vs) HVLn.out.symm)
              simp only [vsP, List.getElem?_map, h1, Option.map_some] at h2
              have h3 : vs[j] = ((zipP t vs).getD j p0).v := by rw [List.getElem?_eq_getElem hj2] at h2; simpa using h2.symm
              have e0 := flat_at Va.cells 3 (fun _ => rfl) vs j hj2 0 (by omega)
              have e1 := flat_at Va.cells 3 (fun _ => rfl) vs j hj2 1 (by omega)
              have e2 := flat_at Va.cells 3 (fun _ => rfl) vs j hj2 2 (by omega)
              rw [h3] at e0 e1 e2
              have f0 := hvc _ _ e0
              have f1 := hvc _ _ e1
              have f2 := hvc _ _ e2
              exact ⟨f0, f1, f2⟩)
            rw [← hn] at HLZ HVLn HTN ⊢
            have HTn := Lib.hid hn
            clear hn htc hvc HT8 HV9
            obtain ⟨Z, hZ⟩ : ∃ Z, Z = zipP t vs := ⟨_, rfl⟩
            rw [← hZ] at HGD HLZ HTC HVC
            clear hZ
            obtain ⟨i0, hi0, hz0, hz1, hz2⟩ := info_parts infoPn
            obtain ⟨w8, hrun, ho8, hg8⟩ := run_make_full (P := Tryd.prog) y1 w.heap.size 22 42 i0 (.agg #[.int .i64 0, .int .i64 0, .int .u64 0, .string .empty]) 4 Tryd.underlying22 hi0 hz0 hz1 .i64 .i64 n (by rw [hz2]; omega) (by unfold maxLen; omega) HB8.out.size
            rw [pn_zeros] at ho8
            have hc8 : Chg (fun _ => False) y1 w8 := (Chg.refl (fun _ => False) y1).grown hg8 (fun k _ h => by cases h)
            have HO8 := Lib.hid ho8
            have HC8 := Lib.hid hc8
            have HB9 := Lib.hid (HB8.out.trans (hc8.below HB8.out.size (fun _ h => h.elim)))
            have HG8 := Lib.hid (show w.heap.size ≤ y1.heap.size from HB8.out.size)
            have HTB := Lib.hid htb
            have HVB := Lib.hid hvb
            clear hi0 hz0 hz1 hz2 ho8 hg8 hc8 htb hvb
            generalize hgg : y1.heap.size = g at *
            have HGG := Lib.hid hgg
            clear hgg
            go_wp2_with fail
            go_loopg [73] n (fun mm s73 wr => ∃ (j : Nat) (P : List Pn), j + mm = n ∧ s73 = .int .i64 (j : Int) ∧ Hid (P.length = n ∧ P.take j = Z.take j) ∧ Hid (wr.ownsRow w.heap.size 42 4 (.slice (some ⟨g, 0, none⟩) n n) n (P.flatMap Pn.cells)) ∧ Hid (Chg (fun i => i = g) w8 wr))
            case atStart => exact ⟨0, List.replicate n p0, by omega, rfl, Lib.hid ⟨by simp, by simp⟩, HO8, Lib.hid (Chg.refl _ _)⟩
            case round =>
              clear hrun
              obtain ⟨j, P, hj, rfl, HP, HO, HC⟩ := hrel
              by_cases h0 : gk = 0
              · obtain rfl : j = n := by omega
                have hPZ : P = Z := by
                  have h := HP.out.2
                  rw [List.take_of_length_le (by rw [HP.out.1]; omega), List.take_of_length_le (by rw [HLZ.out]; omega)] at h
                  exact h
                subst hPZ
                clear hj
                go_wp2_with fail
                go_ret2
                have hB := HB9.out.trans (HC.out.below HB9.out.size (fun i hi => by rw [hi]; exact HG8.out))
                have hv := RdV.ofOwns HO.out
                rw [← HLZ.out] at hv ⊢
                exact PdEnd.good hB HGD.out.1 HGD.out.2 hv
              · have hjn : j < n := by omega
                have hct : wr.cell? ⟨tb, tf + j, none⟩ = some (.int .i64 (Z.getD j p0).t) := (HC.out.cell (p := ⟨tb, tf + j, none⟩) (Nat.lt_of_lt_of_le (by rw [HGG.out]; exact HTB.out) HC8.out.size) (by have := HTB.out; show ¬ tb = g; omega)).trans ((HC8.out.cell (p := ⟨tb, tf + j, none⟩) (by rw [HGG.out]; exact HTB.out) (fun h => h)).trans (HTC.out j hjn))
                have hvv := HVC.out j hjn
                have hcv : ∀ d, wr.cell? ⟨vb, d, none⟩ = y1.cell? ⟨vb, d, none⟩ := fun d => (HC.out.cell (p := ⟨vb, d, none⟩) (Nat.lt_of_lt_of_le (by rw [HGG.out]; exact HVB.out) HC8.out.size) (by have := HVB.out; show ¬ vb = g; omega)).trans (HC8.out.cell (p := ⟨vb, d, none⟩) (by rw [HGG.out]; exact HVB.out) (fun h => h))
                have hv0 := (hcv _).trans hvv.1
                have hv1 := (hcv _).trans hvv.2.1
                have hv2 := (hcv _).trans hvv.2.2
                clear hvv hcv
                have HNX : Hid ((P.set j (Z.getD j p0)).take (j + 1) = Z.take (j + 1)) := Lib.hid (by
                  rw [take_set_next P j _ (by rw [HP.out.1]; exact hjn), HP.out.2, take_more Z p0 j (by rw [HLZ.out]; exact hjn)])
                obtain ⟨hgc0, hgc1, hgc2, hgc3⟩ := own_get4 HO.out j (by rw [HP.out.1]; exact hjn) HP.out.1
                have hgf0 := HO.out.frozenAt (j * 4)
                have hgf1 := HO.out.frozenAt (j * 4 + 1)
                have hgf2 := HO.out.frozenAt (j * 4 + 2)
                have hgf3 := HO.out.frozenAt (j * 4 + 3)
                have HST := Lib.hid (own_set4 HO.out j (Z.getD j p0) (by rw [HP.out.1]; exact hjn))
                generalize Z.getD j p0 = u at *
                obtain ⟨ut, uk, ub, ux⟩ := u
                dsimp only at *
                go_wp2_with fail
                go_roundg (gk - 1)
                case measure => go_light; omega
                case rel =>
                  go_light
                  exact ⟨j + 1, P.set j ⟨ut, uk, ub, ux⟩, by omega, by go_num, Lib.hid ⟨by rw [List.length_set]; exact HP.out.1, HNX.out⟩, HST, Lib.hid ((((HC.out.setCell (p := ⟨g, j * 4, none⟩) (fun _ => rfl) _).setCell (p := ⟨g, j * 4 + 1, none⟩) (fun _ => rfl) _).setCell (p := ⟨g, j * 4 + 2, none⟩) (fun _ => rfl) _).setCell (p := ⟨g, j * 4 + 3, none⟩) (fun _ => rfl) _)⟩
          · have hno := dcP_no (by rw [← HP2.out]; exact hm0)
            rw [← HP2.out] at hno
            have HNO := Lib.hid (pdG_no_v HDT.out (by rw [← HKP.out]; exact hno.2))
            obtain ⟨vs, e0⟩ := p
            obtain ⟨rfl, _⟩ := hno
            clear hm0
            dsimp only at *
            go_wp2_with fail
            go_ret2
            exact PdEnd.bad HB8.out HNO.out
      · have hNi : ((m - 5 : Nat) : Int) < (N : Int) := by omega
        have HNO := Lib.hid (pdG_no_n (b := b) (by rw [← HNP.out]; have := HM.out; omega))
        clear hNm
        go_wp2_with fail
        go_ret2
        exact PdEnd.bad (HB.out.trans (HB5.out.mono HB.out.size)) HNO.out
    · have hse : (sb == cb) = false := by simp [hsc]
      have HNO := Lib.hid (HNS.out (by rw [← HSB.out, ← HCB.out]; exact hsc))
      rw [hse]
      clear hsc hse
      go_wp2_with fail
      go_ret2
      exact PdEnd.bad hB HNO.out
end Go.Proofs.YthiojdkhapbbnaaDoor


/- XOwnP: Points of the call's own; 'append(points, api.Point{..})'. -/
namespace Go.Proofs.YthiojdkhapbbnaaDoor
open Go.RowKit
set_option linter.unusedVariables false

def OwnP (w : World) (base : Nat) (v : Value) (l : List Pn) : Prop := w.ownsRow base 42 4 v l.length (l.flatMap Pn.cells)
theorem OwnP.pns {w : World} {base : Nat} {v : Value} {l : List Pn} (h : OwnP w base v l) : Pns w v l := RdV.ofOwns h
theorem OwnP.nil (w : World) (base : Nat) : OwnP w base (.slice none 0 0) [] := World.ownsRow_nil _ _ _ _
theorem OwnP.chg {S : Nat → Prop} {w w' : World} {base : Nat} {v : Value} {l : List Pn} (h : OwnP w base v l) (hc : Chg S w w') (hs : ∀ k, base ≤ k → ¬ S k) : OwnP w' base v l :=
  hc.owns h (fun k hk e => hs k (World.ownsRow.lt h k hk).1 e)
theorem OwnP.below {w w' : World} {base : Nat} {v : Value} {l : List Pn} (h : OwnP w base v l) (hc : Below w.heap.size w w') : OwnP w' base v l :=
  h.chg (S := fun _ => False) (Chg.ofBelowAny hc) (fun _ _ h => h)
theorem OwnP.mono {w : World} {base base' : Nat} {v : Value} {l : List Pn} (h : OwnP w base v l) (hb : base' ≤ base) : OwnP w base' v l := ownsRow_mono h hb
theorem pn_one (u : Pn) : ∀ x ∈ u.cells, x.oneCell' = true := by
  intro x hx
  simp only [Pn.cells, List.mem_cons, List.not_mem_nil, or_false] at hx
  rcases hx with rfl | rfl | rfl | rfl <;> rfl
theorem pns_one (l : List Pn) : ∀ x ∈ l.flatMap Pn.cells, x.oneCell' = true := by
  intro x hx
  obtain ⟨u, _, h⟩ := List.mem_flatMap.1 hx
  exact pn_one u x h
theorem flatP_snoc (l : List Pn) (u : Pn) : (l ++ [u]).flatMap Pn.cells = l.flatMap Pn.cells ++ u.cells := by simp

theorem wpList_append_pn (w0 : World) {ops : Array Oper} {rest : List Oper} {o : Oper} {a : Act} {Q : Exit → Act → World → Prop} (hgd : o.guard = none) (s x : Operand)
    (ho : o.op = .call { callee := .builtin .append, args := #[s, x], argTypes := #[22, 22] })
    (base : Nat) (v : Value) (l : List Pn) (u : Pn) (hs : a.eval s = v) (hown : OwnP w0 base v l) (hx : a.eval x = .slice (some ⟨w0.heap.size, 0, none⟩) 1 1)
    (hl : l.length ≤ 1000000000) (hbase : base ≤ w0.heap.size)
    (h : ∀ ao cap w', OwnP w' base (.slice ao (l.length + 1) cap) (l ++ [u]) → Chg (fun k => base ≤ k) w0 w' → wpList Tryd.prog ops Q rest (a.put o.dst (.slice ao (l.length + 1) cap)) w') :
    wpList Tryd.prog ops Q (o :: rest) a (w0.alloc (.cells #[.int .i64 u.t, .int .i64 u.v.k, .int .u64 (u.v.b : Int), .string u.v.t] 42)) := by
  refine wpList_append_rd _ hgd s x 22 ho base 42 (.agg #[.int .i64 0, .int .i64 0, .int .u64 0, .string .empty]) 4 40 Tryd.underlying22 infoPn rfl (by decide) v l.length (l.flatMap Pn.cells) hs (World.ownsRow.alloc hown _) _ 1 u.cells hx
    (RdV.lit w0 #[.int .i64 u.t, .int .i64 u.v.k, .int .u64 (u.v.b : Int), .string u.v.t] 42 1 4 (by decide) rfl) (pn_one u) (by unfold maxLen; omega) (by omega) (by simp; omega) ?_
  intro ao cap w' hg
  have hg' := hg.ofAlloc
  refine h ao cap w' ?_ ((hg'.chg).mono (fun i _ hi => (World.ownsRow.lt hown i hi).1))
  unfold OwnP
  rw [flatP_snoc, List.length_append]
  exact hg'.owns
end Go.Proofs.YthiojdkhapbbnaaDoor

/- XBack08: BlockBack's walk. -/
namespace Go.Proofs.YthiojdkhapbbnaaDoor
open Go.RowKit Go.ChangeShapes Go.WideShapes Go.ChangeAt
set_option linter.unusedVariables false
set_option maxRecDepth 100000

theorem encP_err {l : List Pn} (h : (encP l).2 ≠ 0) : (encP l).1 = [] := by
  cases ht : encS (tsP l) with
  | none => rw [encP_times ht]
  | some t =>
    by_cases h2 : (encC (vsP l)).2 = 0
    · exact absurd (by rw [encP_ok ht (show encC (vsP l) = ((encC (vsP l)).1, 0) by rw [← h2])]) h
    · rw [encP_vals ht h2]
theorem encP_short {l : List Pn} {b : List UInt8} (hok : ∀ p ∈ l, p.ok) (h : encP l = (b, 0)) : b.length ≤ 10010000 ∧ 9 ≤ b.length := by
  have hp := (show PdG b l from ⟨h, hok⟩).parts
  have h1 := encS_short hp.2.2.2.1
  have h2 := encC_short hp.2.2.2.2.2.2.2 hp.2.2.2.2.1
  have h3 : (vP b).length = b.length - 4 - (5 + nP b) := by unfold vP; rw [List.length_take, List.length_drop]; omega
  have h4 : (tP b).length = nP b := (body_split hp.1 hp.2.2.1).2
  omega

set_option maxHeartbeats 2000000 in
theorem blockBack_run (l : List Pn) (a : Int) (y : Nat) (hy : y ≤ 255) (v : Value) (w : World) (hx : ∀ x ∈ l, x.ok) (hl : l.length * 40 ≤ 140737488351232) (ht : Tab w) (hr : Pns w v l) :
    Calls Tryd.prog 5 #[v, .int .i64 a, .int .u8 (y : Int)] w fun e w' => e = .returned (.bool true) ∧ Below w.heap.size w w' := by
  obtain ⟨ao0, cap0, rfl, hnc, hcm⟩ := RdV.shape hr
  unfold maxLen at hcm
  have HR := Lib.hid hr
  have HTB := Lib.hid ht
  have HX := Lib.hid hx
  have HLN := Lib.hid hl
  clear hr ht hx hl
  go_enter Tryd.func5, Tryd.ntmps5
  go_wp2_with (go_at_call 8; refine (awake08_any w HTB.out).mono ?_; rintro e w1 ⟨rfl, hb1⟩; have HB1 := Lib.hid hb1; clear hb1)
  have HR1 := Lib.hid (show Pns w1 (.slice ao0 l.length cap0) l from RdV.below HR.out HB1.out)
  have HT1 := Lib.hid (HTB.out.below HB1.out)
  obtain ⟨p, hp⟩ : ∃ p, p = encP l := ⟨_, rfl⟩
  have HP := Lib.hid hp
  clear hp
  go_upto_region 4 with (go_at_call 10; refine (encodeB_any l _ _ HX.out HLN.out HT1.out HR1.out).mono ?_; rintro e w2 ⟨hb2, bo, bc, rfl, ho⟩; rw [← HP.out] at ho ⊢; have HB2 := Lib.hid (HB1.out.trans (hb2.mono HB1.out.size)); have HO2 := Lib.hid ho; have HN2 := Lib.hid (show Pns w2 (.slice ao0 l.length cap0) l from RdV.below HR1.out hb2); have HT2 := Lib.hid (HT1.out.below hb2); clear hb2 ho)
  obtain ⟨b, m⟩ := p
  try dsimp only at *
  by_cases hm : m = 0
  · subst hm
    have HG : Hid (PdG b l) := Lib.hid ⟨HP.out.symm, HX.out⟩
    obtain ⟨hbl, hbl9⟩ := encP_short HX.out HP.out.symm
    have hD := decodeB_any b (.slice bo b.length bc) w2 (by omega) HT2.out HO2.out.rd
    go_upto_region 7 with (go_at_call 13; refine hD.mono ?_; rintro e w3 ⟨hb3, hu3, xo, xc, rfl, hv3⟩; rw [pdP_of HG.out hu3] at hv3 ⊢; have HB3 := Lib.hid (HB2.out.trans (hb3.mono HB2.out.size)); have HO3 := Lib.hid (show Own w3 w1.heap.size (.slice bo b.length bc) b from (Chg.ofBelowAny (S := fun _ => False) hb3).owns HO2.out (fun _ _ h => h)); have HT3 := Lib.hid (HT2.out.below hb3); have hSM := samePn_any l (.slice xo l.length xc) (.slice ao0 l.length cap0) w3 hv3 (RdV.below HN2.out hb3); clear hb3 hv3 hu3 hD)
    try dsimp only
    by_cases hy0 : y = 0
    · subst hy0
      go_wp2_with (go_at_call 14; refine hSM.mono ?_; rintro _ _ ⟨rfl, q1, rfl⟩)
      go_ret
      exact ⟨rfl, below_dr HB3.out _⟩
    · have hyI : ((y : Int) == 0) = false := by simp; omega
      obtain ⟨j, hj⟩ : ∃ j, j = uT a % b.length := ⟨_, rfl⟩
      have hbl0 : 0 < b.length := by omega
      have hjl : j < b.length := by rw [hj]; exact Nat.mod_lt _ hbl0
      have hua := u64_wrap a
      have hjI : ((uT a : Nat) : Int) % (b.length : Int) = (j : Int) := by rw [hj]; simp
      have hbl1 : ¬ (b.length : Int) = 0 := by omega
      obtain ⟨g, rfl, hgb, hgc, hgf, hput⟩ := own_putj HO3.out hjl
      obtain ⟨z, hz⟩ : ∃ z : UInt8, z = UInt8.ofNat (b[j].toNat + y) := ⟨_, rfl⟩
      have hzI : ((b[j].toNat : Int) + (y : Int)) % 256 = ((z.toNat : Nat) : Int) := by rw [hz, UInt8.toNat_ofNat']; omega
      have hzn : z ≠ b[j] := by
        intro h
        have h1 := congrArg UInt8.toNat h
        rw [hz, UInt8.toNat_ofNat'] at h1
        have h2 := b[j].toNat_lt
        omega
      have HNO := Lib.hid (HG.out.turn j hjl z hzn)
      have HPUT := Lib.hid (hput z)
      have HLZ : Hid ((b.set j z).length = b.length) := Lib.hid List.length_set
      unfold bV at hgc
      clear hput hz hj hzn hy0
      generalize b[j].toNat = B at *
      generalize uT a = U at *
      go_upto_region 10 with (go_at_call 14; refine hSM.mono ?_; rintro _ _ ⟨rfl, q1, rfl⟩)
      have HB4 := Lib.hid ((below_dr HB3.out q1).setCell (p := ⟨g, j, none⟩) (Nat.le_trans HB1.out.size hgb) (.int .u8 (z.toNat : Int)))
      have HR4 := Lib.hid (show Rd ((w3.drewN q1).setCell ⟨g, j, none⟩ (.int .u8 (z.toNat : Int))) (.slice (some ⟨g, 0, none⟩) b.length bc) (b.set j z) from Own.rd (show Own ((w3.drewN q1).setCell ⟨g, j, none⟩ (.int .u8 (z.toNat : Int))) w1.heap.size (.slice (some ⟨g, 0, none⟩) b.length bc) (b.set j z) from HPUT.out))
      clear HPUT hgc hgf
      generalize (w3.drewN q1).setCell ⟨g, j, none⟩ (.int .u8 (z.toNat : Int)) = w4 at *
      have hD4 := decodeB_any (b.set j z) _ w4 (by rw [HLZ.out]; omega) (HTB.out.below HB4.out) HR4.out
      go_wp2_with (go_at_call 13; refine hD4.mono ?_; rintro e w5 ⟨hb5, hu5, ao5, cap5, rfl, hv5⟩; rw [pdP_bad HNO.out] at hv5 ⊢; have HB5 := Lib.hid (HB4.out.trans (hb5.mono HB4.out.size)); clear hb5 hv5 hu5 hD4)
      go_ret
      exact ⟨rfl, HB5.out⟩
  · have hbe : b = [] := by have := encP_err (l := l) (by rw [← HP.out]; exact hm); rw [← HP.out] at this; exact this
    have hmI : ((m : Int) != 0) = true := by simp; omega
    subst hbe
    go_wp2_with fail
    go_ret
    exact ⟨rfl, HB2.out⟩
theorem blockBack_walk {H : Type} (enc : TypeId × Value → H) (W : World) (base : Nat) (v0 v1 v2 : Value) (d0 d1 d2 : DataW H) (p0 p1 p2 : List MemPlace)
    (o0 : Value.okWide Tryd.prog W .any base 22 v0) (o1 : Value.okWide Tryd.prog W .any base 3 v1) (o2 : Value.okWide Tryd.prog W .any base 5 v2)
    (t0 : DataW.Trod enc Tryd.prog W 0 (fun _ => true) true 22 v0 d0 p0) (t1 : DataW.Trod enc Tryd.prog W 0 (fun _ => true) true 3 v1 d1 p1) (t2 : DataW.Trod enc Tryd.prog W 0 (fun _ => true) true 5 v2 d2 p2)
    (hsz : (DataW.weightsEach Tryd.prog [22, 3, 5] [d0, d1, d2]).all (· ≤ reachBytes) = true) (ht : Tab W) :
    Calls Tryd.prog 5 #[v0, v1, v2] W fun e W' => e = .returned (.bool true) ∧ Below W.heap.size W W' := by
  simp only [DataW.weightsEach, List.append_nil, List.all_append, Bool.and_eq_true] at hsz
  obtain ⟨l, hr0, hx, hl⟩ := open_pns o0 t0 hsz.1
  obtain ⟨a1, rfl, rfl, rfl, w1⟩ := open_int Tryd.underlying3 o1 t1
  obtain ⟨a2, rfl, rfl, rfl, w2⟩ := open_int Tryd.underlying5 o2 t2
  have hy := wf_u8 w2
  obtain ⟨m, rfl⟩ := Int.eq_ofNat_of_zero_le hy.1
  exact blockBack_run l a1 m (by omega) v0 W hx hl ht hr0
end Go.Proofs.YthiojdkhapbbnaaDoor
