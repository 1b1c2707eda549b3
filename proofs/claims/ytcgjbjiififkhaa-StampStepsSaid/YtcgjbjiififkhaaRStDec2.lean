/- gristref05.Decode; gristlaw05.same. -/
import Derived.Test.YtcgjbjiififkhaaRStDec
namespace Go.Proofs.Ytcgjbjiififkhaa
open Go.RowKit
set_option linter.unusedVariables false

set_option maxHeartbeats 2000000 in
set_option maxRecDepth 100000 in
theorem rdecode_any (bs : List UInt8) (v : Value) (w : World) (hl : bs.length ≤ 140737488355328) (hr : Rd w v bs) :
    Calls Try.prog 11 #[v] w fun e w' => DecEnd bs w e w' := by
  obtain ⟨ao0, cap0, rfl, hnc, hcm⟩ := RdV.shape hr
  unfold maxLen at hcm
  have HR := Lib.hid hr
  have hRd := read_any bs _ w hl hr
  clear hr
  cases hcr : candR bs with
  | none =>
    have HU := Lib.hid (dec_candR_none hcr)
    unfold ReadEnd at hRd
    rw [hcr] at hRd
    clear hcr
    have hE := fun (wx : World) => rencode_any [] (.slice none 0 0) wx (by intro x hx; cases hx) (RdV.nil _ _)
    have hn : encS ([] : List Int) = none := encS_none (.inl rfl)
    go_enter Try.func11, Try.ntmps11
    go_upto_region 2 with (go_at_call 23; refine hRd.mono ?_; rintro e w2 ⟨hb2, h⟩; rcases h with ⟨_, rfl⟩ | ⟨_, _, _, h, _⟩; have HB2 := Lib.hid hb2; clear hb2 hRd; rotate_left 1; cases h)
    go_upto_region 3 with (go_at_call 9; refine (hE _).mono ?_; rintro e w3 ⟨hb3, h⟩; rw [hn] at h; rcases h with ⟨_, rfl⟩ | ⟨_, _, _, h, _⟩; have HB3 := Lib.hid (HB2.out.trans (hb3.mono HB2.out.size)); clear hb3 hE; rotate_left 1; cases h)
    go_wp2_with fail
    go_ret2
    exact ⟨HB3.out, .inl ⟨HU.out, by go_light; rfl⟩⟩
  | some t =>
    have HCR := Lib.hid hcr
    unfold ReadEnd at hRd
    rw [hcr] at hRd
    have hE := fun (v : Value) (wx : World) (h : Tms wx v t) => rencode_any t v wx (candR_ok hcr) h
    clear hcr
    go_enter Try.func11, Try.ntmps11
    go_upto_region 2 with (go_at_call 23; refine hRd.mono ?_; rintro e w2 ⟨hb2, h⟩; rcases h with ⟨h, _⟩ | ⟨t2, tto, tc, h, rfl, ht⟩; cases h; obtain rfl : t = t2 := (by simpa using h); have HB2 := Lib.hid hb2; have HT2 := Lib.hid ht; clear hb2 hRd ht h)
    cases hes : encS t with
    | none =>
      have HU := Lib.hid (dec_candR HCR.out (by rw [hes]; simp))
      go_upto_region 3 with (go_at_call 9; refine (hE _ _ HT2.out).mono ?_; rintro e w3 ⟨hb3, h⟩; rw [hes] at h; rcases h with ⟨_, rfl⟩ | ⟨_, _, _, h, _⟩; have HB3 := Lib.hid (HB2.out.trans (hb3.mono HB2.out.size)); clear hb3 hE; rotate_left 1; cases h)
      go_wp2_with fail
      go_ret2
      exact ⟨HB3.out, .inl ⟨HU.out, by go_light; rfl⟩⟩
    | some c =>
      have HES := Lib.hid hes
      clear hes
      go_upto_region 3 with (go_at_call 9; refine (hE _ _ HT2.out).mono ?_; rintro e w3 ⟨hb3, h⟩; rw [HES.out] at h; rcases h with ⟨h, _⟩ | ⟨c2, co, cc, h, _, _, rfl, ho3⟩; cases h; obtain rfl : c = c2 := (by simpa using h); have HB3 := Lib.hid (HB2.out.trans (hb3.mono HB2.out.size)); have c4 := run_str ho3.rd 24 5 9 Try.underlying24 Try.underlying5 Try.underlying9; have c5 := run_str (RdV.below HR.out.v HB3.out) 24 5 9 Try.underlying24 Try.underlying5 Try.underlying9; have HT3 := Lib.hid (show Tms w3 (.slice tto t.length tc) t from RdV.below HT2.out hb3); clear hb3 hE ho3 h)
      by_cases hcb : c = bs
      · subst hcb
        have HU := Lib.hid (decS_of (candR_ok HCR.out) HES.out)
        go_wp2_with fail
        go_ret2
        exact ⟨HB3.out, .inr ⟨t, tto, tc, HU.out, by go_light; rfl, HT3.out⟩⟩
      · have HU := Lib.hid (dec_candR HCR.out (by rw [HES.out]; intro h; exact hcb (by simpa using h)))
        have hst : (c == bs) = false := by simpa using hcb
        go_wp2_with fail
        go_ret2
        exact ⟨HB3.out, .inl ⟨HU.out, by go_light; rfl⟩⟩

set_option maxHeartbeats 400000 in
theorem sameTimes_any (l : List Int) (a b : Value) (w : World) (ha : Tms w a l) (hb : Tms w b l) :
    Calls Try.prog 13 #[a, b] w fun e w' => e = .returned (.bool true) ∧ ∃ m, w' = w.drewN m := by
  obtain ⟨ao, ac, rfl, hx1, hx2⟩ := RdV.shape ha
  obtain ⟨bo, bc, rfl, _, _⟩ := RdV.shape hb
  unfold maxLen at hx2
  have hll : l.length ≤ 9223372036854775807 := by omega
  go_enter Try.func13, Try.ntmps13
  go_wp2_with fail
  go_loopg [5, 13] l.length (fun m s5 s13 wr => ∃ k : Nat, k + m = l.length ∧ s13 = .int .i64 k ∧ ∃ q, wr = w.drewN q)
  case atStart => exact ⟨0, by omega, rfl, 0, rfl⟩
  case round =>
    obtain ⟨k, hk, rfl, q, rfl⟩ := hrel
    by_cases h0 : gk = 0
    · obtain rfl : k = l.length := by omega
      go_wp2_with fail
      go_ret
      exact ⟨rfl, q, rfl⟩
    · have hkl : k < l.length := by omega
      obtain ⟨b1, o1, c1, he1, _, hc1⟩ := tm_at ha k hkl
      obtain ⟨b2, o2, c2, he2, _, hc2⟩ := tm_at hb k hkl
      simp only [Value.slice.injEq, true_and] at he1 he2
      obtain ⟨rfl, rfl⟩ := he1
      obtain ⟨rfl, rfl⟩ := he2
      generalize l.getD k 0 = x at *
      go_upto_region 6 with fail
      go_quiet (fail)
      go_wp2_with fail
      go_roundg (gk - 1)
      case measure => go_light; omega
      case rel =>
        go_light
        exact ⟨k + 1, by omega, by go_num, _, rfl⟩

/-- A Decode's result as times and an error. -/
def deO (bs : List UInt8) : List Int × Nat := match decS bs with
  | none => ([], 2)
  | some t => (t, 0)
theorem deO_one {bs : List UInt8} {w w' : World} {e : Ending} (h : DecEnd bs w e w') :
    Below w.heap.size w w' ∧ ∃ ao cap, e = .returned (.tuple #[.slice ao (deO bs).1.length cap, .int .i64 ((deO bs).2 : Int)]) ∧ Tms w' (.slice ao (deO bs).1.length cap) (deO bs).1 := by
  refine ⟨h.1, ?_⟩
  unfold deO
  rcases h.2 with ⟨h1, rfl⟩ | ⟨t, ao, cap, h1, rfl, ho⟩
  · rw [h1]
    exact ⟨none, 0, rfl, RdV.nil _ _⟩
  · rw [h1]
    exact ⟨ao, cap, rfl, ho⟩
end Go.Proofs.Ytcgjbjiififkhaa
