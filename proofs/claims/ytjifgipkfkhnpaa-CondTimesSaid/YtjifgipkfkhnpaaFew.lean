/- gristlaw19's FewConds: how many conditions there are. -/
import Derived.Test.YtjifgipkfkhnpaaTree
import Derived.Test.YtjifgipkfkhnpaaProg
import Derived.BigRegion
import Derived.Deep.LoopGhost
import Derived.Deep.DeepCutAuto
import Derived.Deep.QuietTactic
import Derived.BigQuiet
import Derived.Lib.Hide
import Derived.Deep.Light
namespace Go.Proofs.Ytjifgipkfkhnpaa
open Go.RowKit
set_option linter.unusedVariables false

/-- What is left of a number of conditions. -/
def leftF : Fo → Int → Int
  | .nil, n => n
  | .cons _ p r, n => if 0 ≤ n then leftF r (leftF p (n - 1)) else n
theorem leftF_le : ∀ (F : Fo) (n : Int), leftF F n ≤ n
  | .nil, n => Int.le_refl _
  | .cons _ p r, n => by
    unfold leftF
    split
    · have := leftF_le p (n - 1)
      have := leftF_le r (leftF p (n - 1))
      omega
    · omega
theorem leftF_ge : ∀ (F : Fo) (n : Int), -1 ≤ n → -1 ≤ leftF F n
  | .nil, n, h => h
  | .cons _ p r, n, h => by
    unfold leftF
    split
    · exact leftF_ge r _ (leftF_ge p (n - 1) (by omega))
    · exact h
theorem leftF_neg : ∀ (F : Fo) (n : Int), n < 0 → leftF F n = n
  | .nil, n, h => rfl
  | .cons _ p r, n, h => by unfold leftF; rw [if_neg (by omega)]
/-- If there are few, that is what is left. -/
theorem leftF_few : ∀ (F : Fo) (n : Int), 0 ≤ leftF F n → leftF F n = n - (F.sz : Int)
  | .nil, n, h => by simp [leftF, Fo.sz]
  | .cons c p r, n, h => by
    unfold leftF at h ⊢
    by_cases h0 : 0 ≤ n
    · rw [if_pos h0] at h ⊢
      have hp : 0 ≤ leftF p (n - 1) := by
        apply Int.not_lt.1
        intro hc
        rw [leftF_neg r _ hc] at h
        omega
      rw [leftF_few r _ h, leftF_few p _ hp]
      simp only [Fo.sz]
      omega
    · rw [if_neg h0] at h; omega

theorem leftF_pos (c : Lf) (p r : Fo) {n : Int} (h : 0 ≤ n) : leftF (.cons c p r) n = leftF r (leftF p (n - 1)) := by conv => lhs; unfold leftF; rw [if_pos h]
theorem leftF_no (c : Lf) (p r : Fo) {n : Int} (h : ¬ 0 ≤ n) : leftF (.cons c p r) n = n := by conv => lhs; unfold leftF; rw [if_neg h]

set_option maxHeartbeats 1000000 in
theorem left_any : ∀ (j : Nat) (F : Fo) (n : Int) (v : Value) (w : World), F.sz < j → -1 ≤ n → n ≤ 3000 → RdF w v F →
    Calls Try.prog 16 #[v, .int .i64 n] w fun e w' => e = .returned (.int .i64 (leftF F n)) ∧ w' = w := by
  intro j
  induction j with
  | zero => intro F n v w h; omega
  | succ j ih =>
    intro F n v w hj hn1 hn2 hr
    obtain ⟨xs, hr, hm⟩ := hr
    obtain ⟨ao0, cap0, rfl, hnc, hcm⟩ := RdV.shape hr
    unfold maxLen at hcm
    go_enter Try.func16, Try.ntmps16
    go_wp2_with fail
    go_loopg [1, 5] xs.length (fun m s1 s5 wr => ∃ (k : Nat) (R : Fo) (n2 : Int), k + m = xs.length ∧ s5 = .int .i64 (k : Int) ∧ s1 = .int .i64 n2 ∧ -1 ≤ n2 ∧ n2 ≤ 3000 ∧ R.sz < j + 1 ∧ Hid (Mt w R (xs.drop k)) ∧ Hid (leftF R n2 = leftF F n) ∧ wr = w)
    case atStart => exact ⟨0, F, n, by omega, rfl, rfl, hn1, hn2, hj, Lib.hid (by rw [List.drop_zero]; exact hm), Lib.hid rfl, rfl⟩
    case round =>
      obtain ⟨k, R, n2, hk, rfl, rfl, hn3, hn4, hR, hM, hE, rfl⟩ := hrel
      cases R with
      | nil =>
        obtain rfl := Mt.end hM.out (by omega)
        go_wp2_with fail
        go_ret
        have := hE.out
        exact ⟨by rw [← this]; rfl, rfl⟩
      | cons c p r =>
        obtain ⟨hlt, pv, hx, hp, hmr⟩ := Mt.at hM.out
        by_cases h0 : 0 ≤ n2
        · obtain ⟨b, off, cap', he, _, _, _, _, _, _, e6⟩ := cond_at hr k hlt
          simp only [Value.slice.injEq, true_and] at he
          obtain ⟨rfl, rfl⟩ := he
          rw [hx] at e6
          simp only at e6
          have hE2 := hE.out
          rw [leftF_pos _ _ _ h0] at hE2
          have HE2 := Lib.hid hE2
          have HM2 := Lib.hid hmr
          have hc := ih p (n2 - 1) pv wr (by simp only [Fo.sz] at hR; omega) (by omega) (by omega) hp
          have hle := leftF_le p (n2 - 1)
          have hge := leftF_ge p (n2 - 1) (by omega)
          have hR2 : r.sz < j + 1 := by simp only [Fo.sz] at hR; omega
          clear hE hE2 hM hmr hR hx hp
          go_wp2_with (go_at_call 16; refine hc.mono ?_; rintro _ _ ⟨rfl, rfl⟩)
          go_roundg (gk - 1)
          case measure => go_light; omega
          case rel =>
            go_light
            exact ⟨k + 1, r, _, by omega, by go_num, rfl, hge, by omega, hR2, HM2, HE2, rfl⟩
        · have hE2 := hE.out
          rw [leftF_no _ _ _ h0] at hE2
          have HE2 := Lib.hid hE2
          clear hE hE2
          go_wp2_with fail
          go_ret
          exact ⟨by rw [← HE2.out]; rfl, rfl⟩

theorem few_any (F : Fo) (v : Value) (w : World) (hr : RdF w v F) :
    Calls Try.prog 9 #[v] w fun e w' => e = .returned (.bool (decide (0 ≤ leftF F 3000))) ∧ w' = w := by
  have h := left_any (F.sz + 1) F 3000 v w (by omega) (by omega) (by omega) hr
  go_enter Try.func9, Try.ntmps9
  go_wp2_with (go_at_call 16; refine h.mono ?_; rintro _ _ ⟨rfl, rfl⟩)
  go_ret
  exact ⟨rfl, rfl⟩
end Go.Proofs.Ytjifgipkfkhnpaa
