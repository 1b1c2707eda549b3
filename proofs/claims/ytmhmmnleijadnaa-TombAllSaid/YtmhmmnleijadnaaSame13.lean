/- gristref01.SamePoints, SameColumns: of columns that read alike, true. -/
import Derived.Test.YtmhmmnleijadnaaCols13
namespace Go.Proofs.Ytmhmmnleijadnaa
open Go.RowKit Go.ChangeShapes Go.WideShapes Go.ChangeAt
set_option linter.unusedVariables false

theorem RdV.drewN {w : World} {size n : Nat} {v : Value} {xs : List Value} (h : RdV w size v n xs) (m : Nat) : RdV (w.drewN m) size v n xs := h

theorem quiet_at {P : Program} {f : FuncId} {args : Array Value} {w : World} {q n : Nat} {v : Value}
    (h : Calls P f args (w.drewN (q + n)) fun e w' => e = .returned v ∧ ∃ m, w' = (w.drewN (q + n)).drewN m) : Calls P f args (w.drewN (q + n)) fun e w'' => e = .returned v ∧ ∃ m, w'' = w.drewN (q + m) :=
  h.mono fun _ _ ⟨he, m, hm⟩ => ⟨he, n + m, by rw [hm, World.drewN_drewN, Nat.add_assoc]⟩

set_option maxHeartbeats 1000000 in
theorem samePoints_any (l : List Pt) (a b : Value) (w : World) (ha : RdV w 4 a l.length (l.flatMap Pt.cells)) (hb : RdV w 4 b l.length (l.flatMap Pt.cells)) :
    Calls Try.prog 22 #[a, b] w fun e w' => e = .returned (.bool true) ∧ ∃ m, w' = w.drewN m := by
  obtain ⟨ao, ac, rfl, hn, hac⟩ := RdV.shape ha
  obtain ⟨bo, bc, rfl, hbn, hbc⟩ := RdV.shape hb
  unfold maxLen at hac hbc
  go_enter Try.func22, Try.ntmps22
  go_wp2_with fail
  go_loopg [13] l.length (fun m s13 wr => ∃ k : Nat, k + m = l.length ∧ s13 = .int .i64 k ∧ ∃ q, wr = w.drewN q)
  case atStart => exact ⟨0, by omega, rfl, 0, rfl⟩
  case round =>
    obtain ⟨k, hk, rfl, q, rfl⟩ := hrel
    by_cases h0 : gk = 0
    · obtain rfl : k = l.length := by omega
      clear hk
      go_wp2_with fail
      go_ret
      exact ⟨rfl, q, rfl⟩
    · have hlt : k < l.length := by omega
      obtain ⟨b1, off1, cap1, he, e0, e1, e2, e3⟩ := pt_at ha k hlt
      simp only [Value.slice.injEq, true_and] at he
      obtain ⟨rfl, rfl⟩ := he
      obtain ⟨b2, off2, cap2, he, f0, f1, f2, f3⟩ := pt_at hb k hlt
      simp only [Value.slice.injEq, true_and] at he
      obtain ⟨rfl, rfl⟩ := he
      generalize l[k] = p at *
      obtain ⟨pt, pk, pb, px⟩ := p
      dsimp only at *
      go_upto_region 6 with fail
      go_quiet (fail)
      go_wp2_with fail
      go_roundg (gk - 1)
      case measure => go_light; omega
      case rel =>
        go_light
        exact ⟨k + 1, by omega, by go_num, _, rfl⟩

set_option maxHeartbeats 1000000 in
theorem sameColumns_any (cs ds : List Cl) (a b : Value) (w : World) (ha : Cols w a cs) (hb : Cols w b ds) (ht : cs.map Cl.tag = ds.map Cl.tag) :
    Calls Try.prog 10 #[a, b] w fun e w' => e = .returned (.bool true) ∧ ∃ m, w' = w.drewN m := by
  obtain ⟨ao, ac, rfl, hn, hac⟩ := RdV.shape ha.1
  obtain ⟨bo, bc, rfl, hbn, hbc⟩ := RdV.shape hb.1
  unfold maxLen at hac hbc
  have hlen : cs.length = ds.length := by simpa using congrArg List.length ht
  go_enter Try.func10, Try.ntmps10
  go_wp2_with fail
  go_loopg [13] cs.length (fun m s13 wr => ∃ k : Nat, k + m = cs.length ∧ s13 = .int .i64 k ∧ ∃ q, wr = w.drewN q)
  case atStart => exact ⟨0, by omega, rfl, 0, rfl⟩
  case round =>
    obtain ⟨k, hk, rfl, q, rfl⟩ := hrel
    by_cases h0 : gk = 0
    · obtain rfl : k = cs.length := by omega
      clear hk
      go_wp2_with fail
      go_ret
      exact ⟨rfl, q, rfl⟩
    · have hlt : k < cs.length := by omega
      have hlt2 : k < ds.length := by omega
      obtain ⟨b1, off1, cap1, he, e0, e1, e2, hp1⟩ := col_at ha k hlt
      simp only [Value.slice.injEq, true_and] at he
      obtain ⟨rfl, rfl⟩ := he
      obtain ⟨b2, off2, cap2, he, f0, f1, f2, hp2⟩ := col_at hb k hlt2
      simp only [Value.slice.injEq, true_and] at he
      obtain ⟨rfl, rfl⟩ := he
      have hk2 : cs[k].tag = ds[k].tag := by
        have h := congrArg (fun l => l[k]?) ht
        simpa [List.getElem?_map, hlt, hlt2] using h
      generalize cs[k] = c at *
      generalize ds[k] = d at *
      obtain ⟨cs_, cf, cpv, cps⟩ := c
      obtain ⟨ds_, df, dpv, dps⟩ := d
      simp only [Cl.tag, Prod.mk.injEq] at hk2
      obtain ⟨rfl, rfl, rfl⟩ := hk2
      dsimp only at *
      have hB : ∀ n, Calls Try.prog 22 #[cpv, dpv] (w.drewN n) fun e w' => e = .returned (.bool true) ∧ ∃ m, w' = (w.drewN n).drewN m := fun n => samePoints_any cps cpv dpv _ (hp1.drewN n) (hp2.drewN n)
      clear hp1 hp2
      go_upto_region 6 with fail
      go_quiet ((go_at_call 22; exact quiet_at (hB _)))
      go_wp2_with fail
      go_roundg (gk - 1)
      case measure => go_light; omega
      case rel =>
        go_light
        exact ⟨k + 1, by omega, by go_num, _, rfl⟩

end Go.Proofs.Ytmhmmnleijadnaa
