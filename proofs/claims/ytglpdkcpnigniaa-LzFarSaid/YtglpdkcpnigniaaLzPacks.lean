/- LzPacks' walk: any bytes are packed as the document says. -/
import Derived.Test.YtglpdkcpnigniaaLzRuns
import Derived.Test.YtglpdkcpnigniaaLzRPack
import Derived.Test.YtglpdkcpnigniaaOpen
import Derived.Deep.RegionWith
namespace Go.Proofs.Ytglpdkcpnigniaa
open Go.RowKit Go.ChangeShapes Go.WideShapes Go.ChangeAt
set_option linter.unusedVariables false

set_option maxHeartbeats 2000000 in
set_option maxRecDepth 100000 in
theorem lzPacks_run (bs : List UInt8) (v : Value) (w : World) (hr : Rd w v bs) :
    Calls Try.prog 3 #[v] w fun e w' => e = .returned (.bool true) ∧ Below w.heap.size w w' := by
  obtain ⟨ao0, cap0, rfl, hnc, hcm⟩ := RdV.shape hr
  unfold maxLen at hcm
  go_enter Try.func3, Try.ntmps3
  go_wp2_with fail
  refine (awake_any w).mono ?_
  rintro e w1 ⟨rfl, hb1⟩
  have HB1 := Lib.hid hb1
  have HR1 := Lib.hid (show Rd w1 (.slice ao0 bs.length cap0) bs from RdV.below hr.v hb1)
  clear hb1 hr
  go_upto_if 7 with (fail)
  go_cut [0] (fun s0 wx => (∃ (ao : Option Addr) (cap : Nat) (cs : List UInt8), s0 = .slice ao cs.length cap ∧ cs.length ≤ 20000 ∧ Rd w1 (.slice ao cs.length cap) cs) ∧ w1 = wx)
  case first =>
    by_cases h : 20000 < bs.length
    · have hc : 20000 ≤ cap0 := by omega
      have hl : (bs.take 20000).length = 20000 := by simp; omega
      have H2 := Lib.hid (HR1.out.pre 20000 (by omega))
      go_wp2_with fail
      go_meet
      go_light
      exact ⟨⟨ao0, cap0, bs.take 20000, by rw [hl], by omega, by rw [hl]; exact H2.out⟩, rfl⟩
    · go_wp2_with fail
      go_meet
      go_light
      exact ⟨⟨ao0, cap0, bs, rfl, by omega, HR1.out⟩, rfl⟩
  case rest =>
  obtain ⟨⟨ao, cap, cs, rfl, hcl, hcr⟩, rfl⟩ := hcut
  have hcr0 : Rd w1.drew (.slice ao cs.length cap) cs := hcr
  have hcn : cs.length ≤ 1000000 := by omega
  go_upto_region 5 with fail
  go_cut [2] (fun s2 wx => s2 = .bool true ∧ Below w1.heap.size w1 wx)
  case first =>
    go_region_with (first
      | (go_at_call 7; refine (pack_any cs _ _ hcn hcr0).mono ?_; rintro e w4 ⟨ao4, cap4, rfl, ho4, hb4⟩; have c4 := run_str ho4.rd 22 5 9 Try.underlying22 Try.underlying5 Try.underlying9)
      | (go_at_call 8; refine (rpack_any cs _ _ hcn (RdV.below hcr0.v hb4)).mono ?_; rintro e w5 ⟨ao5, cap5, rfl, ho5, hb5⟩; have c4' := run_str (RdV.below ho4.rd.v hb5) 22 5 9 Try.underlying22 Try.underlying5 Try.underlying9; have c5 := run_str ho5.rd 22 5 9 Try.underlying22 Try.underlying5 Try.underlying9))
    all_goals (go_wp2_with fail; go_meet; go_light; exact ⟨by simp, (Below.refl w1.heap.size w1).drew.trans ((show Below w1.heap.size w1.drew w4 from hb4).trans (hb5.mono hb4.size))⟩)
  case rest =>
    obtain ⟨rfl, hbx⟩ := hcut
    have H2 := Lib.hid hbx
    clear hbx
    go_wp2
    go_ret
    exact ⟨rfl, HB1.out.trans (H2.out.mono HB1.out.size)⟩

theorem lzPacks_walk {H : Type} (enc : TypeId × Value → H) (W : World) (base : Nat) (v0 : Value) (d0 : DataW H) (p0 : List MemPlace)
    (o0 : Value.okWide Try.prog W .any base 22 v0)
    (t0 : DataW.Trod enc Try.prog W 0 (fun _ => true) true 22 v0 d0 p0)
    (hsz : (DataW.weightsEach Try.prog [22] [d0]).all (· ≤ reachBytes) = true) :
    Calls Try.prog 3 #[v0] W fun e W' => e = .returned (.bool true) ∧ Below W.heap.size W W' := by
  obtain ⟨bs, hr0, hb0, _⟩ := open_bytes o0 t0
  exact lzPacks_run bs v0 W hr0

end Go.Proofs.Ytglpdkcpnigniaa
