/- Pieces of bytes for a drawn region: '[]byte(s)', and Join of a written-out list. -/
import Derived.Test.YtmhmmnleijadnaaAppStr
import Derived.Test.YtmhmmnleijadnaaJoin
import Derived.Laws.IdiomStrings
namespace Go.Proofs.Ytmhmmnleijadnaa
open Go.RowKit
set_option linter.unusedVariables false

/-- '[]byte(s)'. -/
theorem strBytes_any (s : ByteArray) (w : World) (hs : s.size ≤ 140737488355328) :
    ∃ ao cap w', (convert 9 47 (.string s)).run Try.prog w = .ok (.slice ao s.toList.length cap) w' ∧ Rd w' (.slice ao s.toList.length cap) s.toList ∧ Below w.heap.size w w' := by
  have hr := run_bytes_of_string (P := Try.prog) w 9 47 5 s Try.underlying9 Try.underlying47 Try.underlying5
  have hge := grownCap_ge w s.size 0 5
  have hle := grownCap_le_maxLen w s.size 0 5 (by unfold maxLen; omega)
  refine ⟨_, _, _, by rw [toList_len]; exact hr, ?_, ((Below.refl _ _).drew).alloc (Nat.le_refl _) _⟩
  unfold Rd RdV
  rw [toList_len]
  refine ⟨by simp [toList_len], _, _, rfl, hge, hle, (fun h => by cases h), fun a ha j u hu => ?_⟩
  cases ha
  refine ⟨rfl, by simp, ?_⟩
  have hj : j < s.size := by have := (List.getElem?_eq_some_iff.1 hu).1; simpa [toList_len] using this
  have e := World.cell?_alloc_mark w.drew (bytesRow s (grownCap w s.size 0 5)) 5 ((bytesRow s (grownCap w s.size 0 5)).size, (bytesRow s (grownCap w s.size 0 5)).size + 1) j
  rw [Nat.zero_add]
  refine Eq.trans e ?_
  have hj2 : j < s.data.size := hj
  have el : s.toList = s.data.toList := by
    have e : s = strOf s.data.toList := by cases s; simp [strOf]
    conv => lhs; rw [e]
    rw [strOf_toList]
  rw [el] at hu
  unfold bytesRow
  rw [Array.getElem?_append_left (by simpa using hj2)]
  simpa [bV] using hu

/-- Values that read as these pieces. -/
def Pcs (w : World) : List Value → List (List UInt8) → Prop
  | [], [] => True
  | v :: vs, b :: bs => Rd w v b ∧ Pcs w vs bs
  | _, _ => False
theorem Pcs.nil {w : World} : Pcs w [] [] := trivial
theorem Pcs.cons {w : World} {v : Value} {b : List UInt8} {vs : List Value} {bs : List (List UInt8)} (h : Rd w v b) (k : Pcs w vs bs) : Pcs w (v :: vs) (b :: bs) := ⟨h, k⟩
theorem Pcs.len {w : World} : ∀ {vs : List Value} {ps : List (List UInt8)}, Pcs w vs ps → vs.length = ps.length
  | [], [], _ => rfl
  | v :: vs, b :: bs, h => by rw [List.length_cons, List.length_cons, Pcs.len h.2]
theorem Pcs.get {w : World} : ∀ {vs : List Value} {ps : List (List UInt8)}, Pcs w vs ps → ∀ i u, vs[i]? = some u → Rd w u (ps.getD i [])
  | [], [], _, i, u, hu => by simp at hu
  | v :: vs, b :: bs, h, 0, u, hu => by
    obtain rfl : v = u := by simpa using hu
    exact h.1
  | v :: vs, b :: bs, h, i + 1, u, hu => Pcs.get h.2 i u (by simpa using hu)

theorem joinN_any (vs : List Value) (ps : List (List UInt8)) (n : Nat) (t : TypeId) (w : World) (hn : n = vs.length) (hm : n ≤ maxLen) (h : Pcs w vs ps) (hl : ps.flatten.length ≤ 140737488355328) :
    Calls Try.prog 26 #[.slice (some ⟨w.heap.size, 0, none⟩) n n] (w.alloc (.cells vs.toArray t)) fun e w' => ∃ ao cap, e = .returned (.slice ao ps.flatten.length cap) ∧ Own w' w.heap.size (.slice ao ps.flatten.length cap) ps.flatten ∧ Below w.heap.size w w' := by
  have hbl : Below w.heap.size w (w.alloc (.cells vs.toArray t)) := (Below.refl _ _).alloc (Nat.le_refl _) _
  have hnp : n = ps.length := by rw [hn, h.len]
  have hp : Parts (w.alloc (.cells vs.toArray t)) (.slice (some ⟨w.heap.size, 0, none⟩) n n) ps := by
    refine ⟨vs, h.len, ?_, fun i u hu => RdV.below (h.get i u hu).v hbl⟩
    have := RdV.lit w vs.toArray t n 1 hm (by simp [hn])
    rw [hnp] at this ⊢
    simpa using this
  refine (join_any ps _ _ hp hl).mono ?_
  rintro e w' ⟨ao, cap, rfl, ho, hb⟩
  exact ⟨ao, cap, rfl, ownsRow_mono ho hbl.size, hbl.trans (hb.mono hbl.size)⟩
end Go.Proofs.Ytmhmmnleijadnaa
