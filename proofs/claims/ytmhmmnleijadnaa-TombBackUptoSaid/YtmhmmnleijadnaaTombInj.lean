/- Tombs' bytes are read back in one way only; what stops a reading. -/
import Derived.Test.YtmhmmnleijadnaaTombPlain
import Derived.Test.YtmhmmnleijadnaaAppStr
namespace Go.Proofs.Ytmhmmnleijadnaa
open Go.RowKit
set_option linter.unusedVariables false

theorem name2_rd (s : ByteArray) (r : List UInt8) (hs : s.size < 65536) : rdN 2 (name2 s ++ r) = s.size := by
  unfold name2
  rw [List.append_assoc]
  exact rd_beN 2 s.size (by simpa using hs) _
theorem name2_drop (s : ByteArray) (r : List UInt8) : (name2 s ++ r).drop 2 = s.toList ++ r := by
  unfold name2
  rw [List.append_assoc]
  exact List.drop_left' (beN_len 2 s.size)

theorem name2_inj {s s' : ByteArray} {r r' : List UInt8} (hs : s.size < 65536) (hs' : s'.size < 65536) (h : name2 s ++ r = name2 s' ++ r') : s = s' ∧ r = r' := by
  have h1 := congrArg (rdN 2) h
  rw [name2_rd s r hs, name2_rd s' r' hs'] at h1
  have h2 := congrArg (List.drop 2) h
  rw [name2_drop, name2_drop] at h2
  obtain ⟨h3, h4⟩ := List.append_inj h2 (by rw [toList_len, toList_len]; exact h1)
  exact ⟨by rw [← str_of s, h3, str_of], h4⟩

def okT (t : Tm) : Prop := i64ok t.a ∧ i64ok t.b

theorem fitT_iff {t : Tm} : fitT t = true ↔ t.s.size ≤ 4000 ∧ t.f.size ≤ 4000 := by simp [fitT]

theorem be8_inj {a b : Nat} {r r' : List UInt8} (ha : a < 18446744073709551616) (hb : b < 18446744073709551616) (h : be8 a ++ r = be8 b ++ r') : a = b ∧ r = r' := by
  have h1 := congrArg (rdN 8) h
  rw [rd_be8 a ha, rd_be8 b hb] at h1
  subst h1
  exact ⟨rfl, List.append_cancel_left h⟩

theorem uT_inj {a b : Int} (ha : i64ok a) (hb : i64ok b) (h : uT a = uT b) : a = b := by rw [← sI_uT a ha, h, sI_uT b hb]

theorem encT1_inj {t t' : Tm} {r r' : List UInt8} (hf : fitT t = true) (hf' : fitT t' = true) (ho : okT t) (ho' : okT t') (h : encT1 t ++ r = encT1 t' ++ r') : t = t' ∧ r = r' := by
  obtain ⟨f1, f2⟩ := fitT_iff.1 hf
  obtain ⟨g1, g2⟩ := fitT_iff.1 hf'
  unfold encT1 at h
  simp only [List.append_assoc] at h
  obtain ⟨e1, h⟩ := name2_inj (by omega) (by omega) h
  obtain ⟨e2, h⟩ := name2_inj (by omega) (by omega) h
  unfold tail16 at h
  simp only [List.append_assoc] at h
  obtain ⟨e3, h⟩ := be8_inj (uT_lt _) (uT_lt _) h
  obtain ⟨e4, h9⟩ := be8_inj (uT_lt _) (uT_lt _) h
  obtain ⟨s, f, a, b⟩ := t
  obtain ⟨s', f', a', b'⟩ := t'
  have e5 := uT_inj ho.1 ho'.1 e3
  have e6 := uT_inj ho.2 ho'.2 e4
  dsimp only at e1 e2 e5 e6
  subst e1 e2 e5 e6
  exact ⟨rfl, h9⟩

/-- These are the tombs of these bytes. -/
def TdGood (b : List UInt8) (l : List Tm) : Prop := encTs l = b ∧ l.all fitT = true ∧ ∀ t ∈ l, okT t

theorem encTs_cons (t : Tm) (l : List Tm) : encTs (t :: l) = encT1 t ++ encTs l := by simp [encTs]
theorem encTs_app (l m : List Tm) : encTs (l ++ m) = encTs l ++ encTs m := by simp [encTs]

theorem encTs_split : ∀ (l l' : List Tm) (r : List UInt8), (l.all fitT = true) → (∀ t ∈ l, okT t) → l'.all fitT = true → (∀ t ∈ l', okT t) → encTs l ++ r = encTs l' → ∃ m, l' = l ++ m ∧ r = encTs m
  | [], l', r, _, _, _, _, h => ⟨l', rfl, by simpa [encTs] using h⟩
  | t :: l, [], r, _, _, _, _, h => by
    have := congrArg List.length h
    rw [encTs_cons, List.length_append, List.length_append, encT1_len] at this
    simp [encTs] at this
  | t :: l, t' :: l', r, h1, h2, h3, h4, h => by
    rw [encTs_cons, encTs_cons, List.append_assoc] at h
    rw [List.all_cons, Bool.and_eq_true] at h1 h3
    obtain ⟨e, h⟩ := encT1_inj h1.1 h3.1 (h2 t (by simp)) (h4 t' (by simp)) h
    obtain ⟨m, e2, e3⟩ := encTs_split l l' r h1.2 (fun x hx => h2 x (by simp [hx])) h3.2 (fun x hx => h4 x (by simp [hx])) h
    exact ⟨m, by rw [e, e2]; rfl, e3⟩

theorem TdGood.one {b : List UInt8} {l l' : List Tm} (h : TdGood b l) (h' : TdGood b l') : l' = l := by
  obtain ⟨m, e1, e2⟩ := encTs_split l l' [] h.2.1 h.2.2 h'.2.1 h'.2.2 (by rw [List.append_nil, h.1, h'.1])
  cases m with
  | nil => simpa using e1
  | cons t m =>
    have := congrArg List.length e2
    rw [encTs_cons, List.length_append, encT1_len] at this
    simp at this
    omega

/-- A name stands ahead. -/
def nameOk (r : List UInt8) : Prop := 2 + rdN 2 r ≤ r.length ∧ rdN 2 r ≤ 4000
def nameS (r : List UInt8) : ByteArray := strOf ((r.drop 2).take (rdN 2 r))
def nameR (r : List UInt8) : List UInt8 := r.drop (2 + rdN 2 r)
theorem nameS_size {r : List UInt8} (h : nameOk r) : (nameS r).size = rdN 2 r := by
  unfold nameS
  rw [strOf_size, List.length_take, List.length_drop]
  have := h.1
  omega
theorem name_eq {r : List UInt8} (h : nameOk r) : r = name2 (nameS r) ++ nameR r := by
  have h1 := h.1
  unfold name2
  rw [nameS_size h, beN_rdN 2 r (by omega)]
  unfold nameS nameR
  rw [strOf_toList, List.append_assoc]
  have e : r.drop (2 + rdN 2 r) = (r.drop 2).drop (rdN 2 r) := by rw [List.drop_drop]
  rw [e, List.take_append_drop, List.take_append_drop]
theorem name_of (s : ByteArray) (r : List UInt8) (hs : s.size ≤ 4000) : nameOk (name2 s ++ r) := by
  unfold nameOk
  rw [name2_rd s r (by omega), List.length_append, name2_len]
  omega

/-- Sixteen bytes stand ahead. -/
theorem tail_eq {r : List UInt8} (h : 16 ≤ r.length) : r = tail16 (sI (rdN 8 r)) (sI (rdN 8 (r.drop 8))) ++ r.drop 16 := by
  have h1 := rdN_lt 8 r
  have h2 := rdN_lt 8 (r.drop 8)
  unfold tail16
  rw [uT_sI, uT_sI, uT_small _ (by simpa using h1), uT_small _ (by simpa using h2)]
  rw [← beN_8, ← beN_8, beN_rdN 8 r (by omega), beN_rdN 8 (r.drop 8) (by rw [List.length_drop]; omega)]
  have e : r.drop 16 = (r.drop 8).drop 8 := by rw [List.drop_drop]
  rw [e, List.append_assoc, List.take_append_drop, List.take_append_drop]

/-- Tombs so far, and what is left. -/
def TdSo (b : List UInt8) (l : List Tm) (r : List UInt8) : Prop := b = encTs l ++ r ∧ l.all fitT = true ∧ ∀ t ∈ l, okT t
theorem TdSo.start (b : List UInt8) : TdSo b [] b := ⟨by simp [encTs], by simp, by simp⟩
theorem TdSo.done {b : List UInt8} {l : List Tm} (h : TdSo b l []) : TdGood b l := ⟨by rw [h.1, List.append_nil], h.2⟩
theorem TdSo.next {b r r2 : List UInt8} {l : List Tm} {t : Tm} (h : TdSo b l r) (hr : r = encT1 t ++ r2) (hf : fitT t = true) (ho : okT t) : TdSo b (l ++ [t]) r2 := by
  obtain ⟨h1, h2, h3⟩ := h
  refine ⟨by rw [h1, hr, encTs_app, encTs_cons]; simp [encTs], by rw [List.all_append, h2]; simp [hf], fun x hx => ?_⟩
  rw [List.mem_append, List.mem_singleton] at hx
  rcases hx with hx | rfl
  · exact h3 x hx
  · exact ho
theorem TdSo.some {b r : List UInt8} {l l' : List Tm} (h : TdSo b l r) (hr : r ≠ []) (h' : TdGood b l') : ∃ t r2, r = encT1 t ++ r2 ∧ t.s.size ≤ 4000 ∧ t.f.size ≤ 4000 := by
  obtain ⟨m, e1, e2⟩ := encTs_split l l' r h.2.1 h.2.2 h'.2.1 h'.2.2 (by rw [← h.1, h'.1])
  cases m with
  | nil => exact absurd (by simpa [encTs] using e2) hr
  | cons t m =>
    have hf := h'.2.1
    rw [e1, List.all_append, List.all_cons, Bool.and_eq_true, Bool.and_eq_true] at hf
    obtain ⟨f1, f2⟩ := fitT_iff.1 hf.2.1
    exact ⟨t, encTs m, by rw [e2, encTs_cons], f1, f2⟩
theorem TdSo.bad0 {b r : List UInt8} {l : List Tm} (h : TdSo b l r) (hr : r ≠ []) (hb : ¬ nameOk r) : ∀ l', ¬ TdGood b l' := by
  intro l' h'
  obtain ⟨t, r2, e, f1, f2⟩ := h.some hr h'
  unfold encT1 at e
  rw [List.append_assoc, List.append_assoc] at e
  exact hb (e ▸ name_of _ _ f1)
theorem TdSo.bad1 {b r : List UInt8} {l : List Tm} (h : TdSo b l r) (hr : nameOk r) (hb : ¬ nameOk (nameR r)) : ∀ l', ¬ TdGood b l' := by
  intro l' h'
  have hne : r ≠ [] := fun e => by have := hr.1; rw [e] at this; simp at this
  obtain ⟨t, r2, e, f1, f2⟩ := h.some hne h'
  unfold encT1 at e
  rw [List.append_assoc, List.append_assoc] at e
  have hs := nameS_size hr
  have e2 := (name_eq hr).symm.trans e
  obtain ⟨_, e3⟩ := name2_inj (by rw [hs]; have := hr.2; omega) (by omega) e2
  exact hb (e3 ▸ name_of _ _ f2)
theorem TdSo.bad2 {b r : List UInt8} {l : List Tm} (h : TdSo b l r) (hr : nameOk r) (hr2 : nameOk (nameR r)) (hb : (nameR (nameR r)).length < 16) : ∀ l', ¬ TdGood b l' := by
  intro l' h'
  have hne : r ≠ [] := fun e => by have := hr.1; rw [e] at this; simp at this
  obtain ⟨t, r2, e, f1, f2⟩ := h.some hne h'
  unfold encT1 at e
  rw [List.append_assoc, List.append_assoc] at e
  have hs := nameS_size hr
  have hs2 := nameS_size hr2
  have e2 := (name_eq hr).symm.trans e
  obtain ⟨_, e3⟩ := name2_inj (by rw [hs]; have := hr.2; omega) (by omega) e2
  have e4 := (name_eq hr2).symm.trans e3
  obtain ⟨_, e5⟩ := name2_inj (by rw [hs2]; have := hr2.2; omega) (by omega) e4
  rw [e5, List.length_append, tail16_len] at hb
  omega
theorem tomb_eq {r : List UInt8} (hr : nameOk r) (hr2 : nameOk (nameR r)) (h3 : 16 ≤ (nameR (nameR r)).length) :
    r = encT1 ⟨nameS r, nameS (nameR r), sI (rdN 8 (nameR (nameR r))), sI (rdN 8 ((nameR (nameR r)).drop 8))⟩ ++ (nameR (nameR r)).drop 16 := by
  unfold encT1
  dsimp only
  rw [List.append_assoc, List.append_assoc, ← tail_eq h3, ← name_eq hr2, ← name_eq hr]
theorem tomb_fit {r : List UInt8} (hr : nameOk r) (hr2 : nameOk (nameR r)) (a b : Int) : fitT ⟨nameS r, nameS (nameR r), a, b⟩ = true :=
  fitT_iff.2 ⟨by rw [nameS_size hr]; exact hr.2, by rw [nameS_size hr2]; exact hr2.2⟩

/-- What a Decode ends with. -/
def TdEnd (b : List UInt8) (w : World) (e : Ending) (w' : World) : Prop :=
  Below w.heap.size w w' ∧ (((∀ l, ¬ TdGood b l) ∧ e = .returned (.tuple #[.slice none 0 0, .int .i64 2])) ∨ ∃ l ao cap, TdGood b l ∧ e = .returned (.tuple #[.slice ao l.length cap, .int .i64 0]) ∧ RdV w' 4 (.slice ao l.length cap) l.length (l.flatMap Tm.cells))
end Go.Proofs.Ytmhmmnleijadnaa
