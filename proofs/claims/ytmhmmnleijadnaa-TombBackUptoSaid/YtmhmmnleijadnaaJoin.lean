/- gristref01.Join. -/
import Derived.Test.YtmhmmnleijadnaaBytes
namespace Go.Proofs.Ytmhmmnleijadnaa
open Go.RowKit
set_option linter.unusedVariables false

/-- A slice of byte slices. -/
def Parts (w : World) (v : Value) (ps : List (List UInt8)) : Prop :=
  ∃ vs : List Value, vs.length = ps.length ∧ RdV w 1 v ps.length vs ∧ ∀ i u, vs[i]? = some u → Rd w u (ps.getD i [])

theorem Parts.below {w w' : World} {v : Value} {ps : List (List UInt8)} (h : Parts w v ps) (hb : Below w.heap.size w w') : Parts w' v ps := by
  obtain ⟨vs, h1, h2, h3⟩ := h
  exact ⟨vs, h1, RdV.below h2 hb, fun i u hu => RdV.below (h3 i u hu).v hb⟩

theorem Parts.two {w : World} {a b : Value} {x y : List UInt8} {t : TypeId} (ha : Rd w a x) (hb : Rd w b y) :
    Parts (w.alloc (.cells #[a, b] t)) (.slice (some ⟨w.heap.size, 0, none⟩) 2 2) [x, y] := by
  have hbl : Below w.heap.size w (w.alloc (.cells #[a, b] t)) := (Below.refl _ _).alloc (Nat.le_refl _) _
  refine ⟨[a, b], rfl, RdV.lit w #[a, b] t 2 1 (by decide) rfl, fun i u hu => ?_⟩
  match i, hu with
  | 0, hu => obtain rfl : a = u := by simpa using hu
             exact RdV.below ha.v hbl
  | 1, hu => obtain rfl : b = u := by simpa using hu
             exact RdV.below hb.v hbl
theorem Parts.three {w : World} {a b c : Value} {x y z : List UInt8} {t : TypeId} (ha : Rd w a x) (hb : Rd w b y) (hc : Rd w c z) :
    Parts (w.alloc (.cells #[a, b, c] t)) (.slice (some ⟨w.heap.size, 0, none⟩) 3 3) [x, y, z] := by
  have hbl : Below w.heap.size w (w.alloc (.cells #[a, b, c] t)) := (Below.refl _ _).alloc (Nat.le_refl _) _
  refine ⟨[a, b, c], rfl, RdV.lit w #[a, b, c] t 3 1 (by decide) rfl, fun i u hu => ?_⟩
  match i, hu with
  | 0, hu => obtain rfl : a = u := by simpa using hu
             exact RdV.below ha.v hbl
  | 1, hu => obtain rfl : b = u := by simpa using hu
             exact RdV.below hb.v hbl
  | 2, hu => obtain rfl : c = u := by simpa using hu
             exact RdV.below hc.v hbl

set_option maxHeartbeats 400000 in
theorem join_any (ps : List (List UInt8)) (v : Value) (w : World) (hp : Parts w v ps) (hl : ps.flatten.length ≤ 140737488355328) :
    Calls Try.prog 26 #[v] w fun e w' => ∃ ao cap, e = .returned (.slice ao ps.flatten.length cap) ∧ Own w' w.heap.size (.slice ao ps.flatten.length cap) ps.flatten ∧ Below w.heap.size w w' := by
  obtain ⟨vs, hvl, hr, hvs⟩ := hp
  obtain ⟨ao0, cap0, rfl, hnc, hcm⟩ := RdV.shape hr
  unfold maxLen at hcm
  have HR := Lib.hid hr
  have HVL := Lib.hid hvl
  have HVS := Lib.hid hvs
  have HL := Lib.hid hl
  clear hr hvl hvs hl
  go_enter Try.func26, Try.ntmps26
  go_wp2_with fail
  go_loopg [3, 7] ps.length (fun m s3 s7 wr => ∃ (k : Nat) (cs : List UInt8) (ao : Option Addr) (cap : Nat), k + m = ps.length ∧ s7 = .int .i64 (k : Int) ∧ s3 = .slice ao cs.length cap ∧ Hid (cs = (ps.take k).flatten) ∧ Hid (Own wr w.heap.size (.slice ao cs.length cap) cs) ∧ Hid (Below w.heap.size w wr))
  case atStart => exact ⟨0, [], none, 0, by omega, rfl, rfl, Lib.hid rfl, Lib.hid (Own.nil _ _), Lib.hid (Below.refl _ _)⟩
  case round =>
    obtain ⟨k, cs, ao, cap, hk, rfl, rfl, HC, HO, HB⟩ := hrel
    by_cases h0 : gk = 0
    · obtain rfl : k = ps.length := by omega
      have hc := HC.out
      rw [List.take_length] at hc
      have HC2 := Lib.hid hc
      clear hc HC
      go_wp2_with fail
      go_ret
      refine ⟨ao, cap, ?_, ?_, HB.out⟩
      · rw [← HC2.out]; rfl
      · rw [← HC2.out]; exact HO.out
    · have hkl : k < ps.length := by omega
      obtain ⟨b, off, bcap, he, _, _, hb, hc⟩ := RdV.some HR.out (by omega) (by decide)
      simp only [Value.slice.injEq, true_and] at he
      obtain ⟨rfl, rfl⟩ := he
      have hkv : k < vs.length := by rw [HVL.out]; exact hkl
      have hc1 := hc k vs[k] (by simp [hkv])
      have hR1 := HVS.out k vs[k] (by simp [hkv])
      have hc2 : wr.cell? ⟨b, off + k, none⟩ = some vs[k] := (HB.out.cell (p := ⟨b, off + k, none⟩) hb).trans hc1
      have HR1 := Lib.hid (show Rd wr vs[k] (ps.getD k []) from RdV.below hR1.v HB.out)
      have HT : Hid ((ps.take (k + 1)).flatten = (ps.take k).flatten ++ ps.getD k []) := Lib.hid (by
        rw [List.take_succ_eq_append_getElem hkl, List.flatten_append]
        simp [hkl])
      have hsum : Hid (cs.length + (ps.getD k []).length ≤ 140737488355328) := Lib.hid (by
        have h1 : ((ps.take (k + 1)).flatten).length ≤ ps.flatten.length := by
          conv => rhs; rw [← List.take_append_drop (k + 1) ps, List.flatten_append, List.length_append]
          omega
        rw [HT.out, List.length_append, ← HC.out] at h1
        have := HL.out
        omega)
      clear hc hc1 hR1 hb
      generalize ps.getD k [] = q at *
      generalize vs[k] = u at *
      obtain ⟨qo, qc, rfl, _, _⟩ := RdV.shape HR1.out
      have hbs : Hid (w.heap.size ≤ wr.heap.size) := Lib.hid HB.out.size
      go_wp2_with (at_builtin; refine wpList_append_bs _ rfl (.tmp 10) (.tmp 14) rfl w.heap.size (.slice ao cs.length cap) cs rfl HO.out (.slice qo q.length qc) q rfl HR1.out hsum.out hbs.out ?_; intro ao6 cap6 w6 hg6; have HG := Lib.hid hg6; clear hg6)
      go_roundg (gk - 1)
      case measure => go_light; omega
      case rel =>
        go_light
        exact ⟨k + 1, cs ++ q, ao6, cap6, by omega, by go_num, by simp, Lib.hid (by rw [HT.out, HC.out]), Lib.hid HG.out.owns, Lib.hid (HB.out.trans (HG.out.below hbs.out (fun j hj => (World.ownsRow.lt HO.out j hj).1)))⟩
end Go.Proofs.Ytmhmmnleijadnaa
