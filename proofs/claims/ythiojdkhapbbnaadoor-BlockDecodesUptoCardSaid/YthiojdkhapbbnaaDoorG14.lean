/- Texts of ours, behind one another: RStDec, RStDec2. No conditions but those that each states. -/
import Derived.Test.YthiojdkhapbbnaaDoorG12
import Derived.Test.YthiojdkhapbbnaaDoorG9
import Derived.BigRegion
import Derived.Deep.RegionHeld3
import Derived.Deep.RegionLaw
/- XRStDec: gristref05.read and Decode. -/
namespace Go.Proofs.YthiojdkhapbbnaaDoor
open Go.RowKit
set_option linter.unusedVariables false

/-- What read ends with. -/
def ReadEnd (bs : List UInt8) (w : World) (e : Ending) (w' : World) : Prop :=
  Below w.heap.size w w' ∧ ((candR bs = none ∧ e = .returned (.tuple #[.slice none 0 0, .bool false])) ∨ ∃ t ao cap, candR bs = some t ∧ e = .returned (.tuple #[.slice ao t.length cap, .bool true]) ∧ Tms w' (.slice ao t.length cap) t)

theorem mB_byte {bs : List UInt8} (h : 0 < bs.length) : mB bs = (bs[0]).toNat := by
  unfold mB
  rw [rdN_next 0 bs h, rdN_zero]
  omega
theorem wd_read {x : List UInt8} {k : Nat} (h : 8 * k + 8 ≤ x.length) : rdN 8 (x.drop (8 * k)) = wd x k := by unfold wd; rw [if_pos h]

/-- A refused Unpack's numbers: none. -/
def unD (bs : List UInt8) (n : Int) : List Nat := (unA bs n).getD []
theorem unD_one {bs : List UInt8} {n : Int} {w w' : World} {e : Ending} (h : UnEnd bs n w e w') : Below w.heap.size w w' ∧ ∃ lo lc m, e = .returned (.tuple #[.slice lo (unD bs n).length lc, .int .i64 ((m : Nat) : Int)]) ∧ OwnN w' w.heap.size (.slice lo (unD bs n).length lc) (unD bs n) ∧ ((unD bs n) = [] ∨ ((unD bs n).length : Int) = n) := by
  refine ⟨h.1, ?_⟩
  unfold unD
  rcases h.2 with ⟨h1, rfl⟩ | ⟨l, ao, cap, h1, h2, h3, rfl, ho⟩
  · rw [h1]
    exact ⟨none, 0, 2, rfl, World.ownsRow_nil _ _ _ _, .inl rfl⟩
  · rw [h1]
    exact ⟨ao, cap, 0, rfl, ho, .inr h3⟩
theorem unD_lt (bs : List UInt8) (n : Int) : ∀ x ∈ unD bs n, x < 18446744073709551616 := by
  unfold unD
  cases h : unA bs n with
  | none => intro x hx; cases hx
  | some l => exact unA_lt h
theorem unD_cand (T : Nat) (bs : List UInt8) (n : Int) : (match unA bs n with
    | none => some (lst (seq2 T []) 1)
    | some l => some (lst (seq2 T l) (l.length + 1))) = some (lst (seq2 T (unD bs n)) ((unD bs n).length + 1)) := by
  unfold unD
  cases unA bs n with
  | none => rfl
  | some l => rfl
theorem uT_sI2 (n : Nat) (h : n < 18446744073709551616) : IntKind.u64.wrap (sI (n : Int)) = (n : Int) := by
  rw [u64_wrap, uT_sI, uT_small n h]
theorem seq1_lt (T D : Nat) (hT : T < 18446744073709551616) : ∀ k, seq1 T D k < 18446744073709551616
  | 0 => hT
  | k + 1 => uT_lt _
theorem seq2_lt (T : Nat) (l : List Nat) (hT : T < 18446744073709551616) : ∀ k, seq2 T l k < 18446744073709551616
  | 0 => hT
  | k + 1 => uT_lt _
theorem ownT_at {w : World} {hi L cap : Nat} {ao : Option Addr} {f : Nat → Nat} (h : OwnT w hi (.slice ao L cap) (lst f L)) (k : Nat) (hk : k < L) : ∃ g off, ao = some ⟨g, off, none⟩ ∧ g < w.heap.size ∧ w.cell? ⟨g, off + k, none⟩ = some (.int .i64 (sI (f k : Int))) := by
  obtain ⟨b, off, bcap, he, hb, hc⟩ := tm_at h.tms k (by rw [lst_len]; exact hk)
  simp only [Value.slice.injEq] at he
  rw [lst_get _ _ _ hk] at hc
  exact ⟨b, off, he.1, hb, hc⟩

set_option maxHeartbeats 2000000 in
set_option maxRecDepth 100000 in
theorem read_any (bs : List UInt8) (v : Value) (w : World) (hl : bs.length ≤ 140737488355328) (hr : Rd w v bs) :
    Calls Tryd.prog 60 #[v] w fun e w' => ReadEnd bs w e w' := by
  obtain ⟨ao0, cap0, rfl, hnc, hcm⟩ := RdV.shape hr
  unfold maxLen at hcm
  by_cases hlen : bs.length < 11
  · have HU := Lib.hid (show candR bs = none by unfold candR; rw [if_pos (.inl hlen)])
    have hI : (bs.length : Int) < 11 := by omega
    clear hr
    go_enter Tryd.func60, Tryd.ntmps60
    go_wp2_with fail
    go_ret2
    exact ⟨Below.refl _ _, .inl ⟨HU.out, by go_light; rfl⟩⟩
  · have h11 : 11 ≤ bs.length := by omega
    have hI : ¬ (bs.length : Int) < 11 := by omega
    have HR := Lib.hid hr
    have hA1 := readAt_any bs 1 2 (by decide) (by omega) hl _ w hr
    have hA2 := fun (m : Nat) => readAt_any bs 3 8 (by decide) (by omega) hl _ (w.drewN m) hr
    have hN := nB_lt bs
    have hT := tB_lt bs
    have hM := mB_lt bs
    obtain ⟨b0, off0, bcap0, he0, hc0⟩ := rdOne hr 0 (by omega)
    simp only [Value.slice.injEq, true_and] at he0
    obtain ⟨rfl, rfl⟩ := he0
    rw [Nat.add_zero, ← mB_byte (by omega)] at hc0
    have e1 : rdN 2 (bs.drop 1) = nB bs := rfl
    have e2 : rdN 8 (bs.drop 3) = tB bs := rfl
    rw [e1] at hA1
    rw [e2] at hA2
    have hrr : RdV w 1 (.slice (some ⟨b0, off0, none⟩) bs.length cap0) bs.length (bs.map bV) := HR.out.v
    have HB0 : Hid (b0 < w.heap.size) := Lib.hid (World.block_lt_of_cell? w _ hc0)
    have HC := Lib.hid (show candR bs = if bs.length < 11 ∨ nB bs < 1 ∨ 1000 < nB bs then none
      else if mB bs = 0 then some (lst (seq0 (tB bs) (xB bs)) (min (nB bs) ((xB bs).length / 8 + 1)))
      else if mB bs = 1 then some (lst (seq1 (tB bs) (wd (xB bs) 0)) (if 8 ≤ (xB bs).length then nB bs else 1))
      else if mB bs = 2 then match unA (xB bs) ((nB bs - 1 : Nat) : Int) with
        | none => some (lst (seq2 (tB bs) []) 1)
        | some l => some (lst (seq2 (tB bs) l) (l.length + 1))
      else some (lst (fun _ => tB bs) 1) from rfl)
    clear e1 e2 hr
    generalize mB bs = M at *
    generalize nB bs = N at *
    generalize tB bs = T at *
    go_enter Tryd.func60, Tryd.ntmps60
    go_upto_region 4 with (go_at_call 29; refine hA1.mono ?_; rintro _ _ ⟨rfl, md, rfl⟩)
    by_cases hNN : N < 1 ∨ 1000 < N
    · have HU := Lib.hid (show candR bs = none by rw [HC.out, if_pos (.inr hNN)])
      rcases hNN with h | h
      · have hI : (N : Int) < 1 := by omega
        go_wp2_with fail
        go_ret2
        exact ⟨below_dr (Below.refl _ _) _, .inl ⟨HU.out, by go_light; rfl⟩⟩
      · have hI : ¬ (N : Int) < 1 := by omega
        have hI2 : (1000 : Int) < (N : Int) := by omega
        go_wp2_with fail
        go_ret2
        exact ⟨below_dr (Below.refl _ _) _, .inl ⟨HU.out, by go_light; rfl⟩⟩
    · have hC := HC.out
      rw [if_neg (by omega)] at hC
      obtain ⟨n1, rfl⟩ : ∃ n1, N = n1 + 1 := ⟨N - 1, by omega⟩
      have hn1 : n1 ≤ 999 := by omega
      have hI : ¬ ((n1 + 1 : Nat) : Int) < 1 := by omega
      have hI2 : ¬ (1000 : Int) < ((n1 + 1 : Nat) : Int) := by omega
      have hsT := i64_wrap (T : Int)
      rw [show n1 + 1 - 1 = n1 by omega] at hC
      have HC2 := Lib.hid hC
      clear hC HC hN hNN hlen hA1
      go_upto_region 7 with (go_at_call 29; refine (hA2 _).mono ?_; rintro _ _ ⟨rfl, md2, rfl⟩)
      have HB5 := Lib.hid (show Below w.heap.size w (w.drewN (md + md2)) from below_dr (Below.refl _ _) _)
      have hOL0 := World.ownsRow_lit (base := w.heap.size) (e := 2) (size := 1) (w.drewN (md + md2)) #[.int .i64 (sI (T : Int))] 1 (Nat.le_refl _) (by decide) rfl
      obtain ⟨hi, hhi⟩ : ∃ hi, hi = w.heap.size := ⟨_, rfl⟩
      have hOL : Hid (OwnT ((w.drewN (md + md2)).alloc (.cells #[.int .i64 (sI (T : Int))] 2)) hi (.slice (some ⟨hi, 0, none⟩) (0 + 1) 1) [sI (T : Int)]) := Lib.hid (by rw [hhi]; exact hOL0)
      have HB6 := Lib.hid (HB5.out.alloc HB5.out.size (.cells #[.int .i64 (sI (T : Int))] 2))
      have hz6 : ((w.drewN (md + md2)).alloc (.cells #[.int .i64 (sI (T : Int))] 2)).heap.size = hi + 1 := by rw [hhi]; have e0 : (w.drewN (md + md2)).heap.size = w.heap.size := rfl; simp
      have HS6 : Hid (hi ≤ ((w.drewN (md + md2)).alloc (.cells #[.int .i64 (sI (T : Int))] 2)).heap.size) := Lib.hid (by omega)
      have hw56 : Hid (hi < ((w.drewN (md + md2)).alloc (.cells #[.int .i64 (sI (T : Int))] 2)).heap.size) := Lib.hid (by omega)
      have HHI := Lib.hid hhi
      rw [← hhi]
      clear HB5 hOL0 hA2 hz6 hhi
      generalize (w.drewN (md + md2)).alloc (.cells #[.int .i64 (sI (T : Int))] 2) = w6 at *
      have hc06 : w6.cell? ⟨b0, off0, none⟩ = some (.int .u8 (M : Int)) := (HB6.out.cell (p := ⟨b0, off0, none⟩) HB0.out).trans hc0
      clear hc0
      have hx := xB_len bs
      have hb0 : ¬ bs.length = 0 := by omega
      have hbp : 0 < bs.length := by omega
      go_wp2_with (with_reducible refine wpList_slice_at w w6 rfl (.tmp 29) (some (.const (.int .i64 11))) none 24 rfl 5 1 (.int .u8 0) 1 Tryd.underlying24 infoU8 _ _ _ _ rfl hrr 11 bs.length ?hb h11 (Nat.le_refl _) ?hk)
      case hb => exact bounds_lo _ _ .i64 11 h11
      case hk =>
      intro ao5 cap5 hr5 _
      have HRx := Lib.hid (rd_tail hr5)
      rw [← hx] at hr5 ⊢
      have hxl : (xB bs).length ≤ 140737488355328 := by omega
      clear hr5 hx hrr
      by_cases hM0 : M = 0
      · subst hM0
        obtain ⟨Rm, hRm⟩ : ∃ Rm, Rm = min n1 ((xB bs).length / 8) := ⟨_, rfl⟩
        have HCD : Hid (candR bs = some (lst (seq0 T (xB bs)) (Rm + 1))) := Lib.hid (by rw [HC2.out, if_pos rfl, show min (n1 + 1) ((xB bs).length / 8 + 1) = Rm + 1 by omega])
        have HRM := Lib.hid hRm
        have hRm9 : Rm ≤ 999 := by omega
        clear hRm
        go_wp2_with fail
        go_loopg [5, 7] Rm (fun m s5 s7 wr => ∃ (k I : Nat) (ao : Option Addr) (cap : Nat), k + m = Rm ∧ I = k + 1 ∧ s7 = .int .i64 (I : Int) ∧ s5 = .slice ao (k + 1) cap ∧ Hid (OwnT wr hi (.slice ao (k + 1) cap) (lst (seq0 T (xB bs)) (k + 1))) ∧ Hid (Below w.heap.size w wr) ∧ Hid (hi ≤ wr.heap.size))
        case atStart => exact ⟨0, 1, some ⟨hi, 0, none⟩, 1, by omega, rfl, rfl, rfl, Lib.hid (by rw [lst_one]; exact hOL.out), HB6, HS6⟩
        case round =>
          clear hOL HB6 HS6 hc06 hw56
          obtain ⟨k, I, ao, cap, hk, hIk, rfl, rfl, HOt, HBx, HSz⟩ := hrel
          by_cases h0 : gk = 0
          · obtain rfl : k = Rm := by omega
            have HCS : (¬ (I : Int) < (n1 : Int) + 1) ∨ ((I : Int) < (n1 : Int) + 1 ∧ ¬ 8 * (I : Int) ≤ ((xB bs).length : Int)) := by have := HRM.out; omega
            clear hIk hk
            rcases HCS with hc | ⟨hc, hc2⟩
            · go_wp2_with fail
              go_ret2
              exact ⟨HBx.out, .inr ⟨lst (seq0 T (xB bs)) (k + 1), ao, cap, HCD.out, by rw [lst_len]; go_light; rfl, by rw [lst_len]; exact HOt.out.tms⟩⟩
            · go_wp2_with fail
              go_ret2
              exact ⟨HBx.out, .inr ⟨lst (seq0 T (xB bs)) (k + 1), ao, cap, HCD.out, by rw [lst_len]; go_light; rfl, by rw [lst_len]; exact HOt.out.tms⟩⟩
          · have hkn : k < Rm := by omega
            have hc1 : (I : Int) < (n1 : Int) + 1 := by have := HRM.out; omega
            have hc2 : 8 * (I : Int) ≤ ((xB bs).length : Int) := by have := HRM.out; omega
            have hI9 : (I : Int) ≤ 1000 := by omega
            obtain ⟨A, hA⟩ : ∃ A, A = 8 * k := ⟨_, rfl⟩
            have hAI : 8 * (I : Int) - 8 = (A : Int) := by omega
            have hRA := readAt_any (xB bs) (8 * k) 8 (by decide) (by omega) hxl _ wr (RdV.below HRx.out.v HBx.out)
            rw [wd_read (by omega), ← hA] at hRA
            have hsw := i64_wrap ((wd (xB bs) k : Nat) : Int)
            have hwl := wd_lt (xB bs) k
            have hcell : Hid (sI ((wd (xB bs) k : Nat) : Int) = sI ((seq0 T (xB bs) (k + 1) : Nat) : Int)) := Lib.hid rfl
            have h63 : Hid (k + 1 + 1 ≤ maxLen) := Lib.hid (by unfold maxLen; omega)
            have hby : Hid ((k + 1 + 1) * 8 ≤ 140737488355328) := Lib.hid (by omega)
            have HIK := Lib.hid hIk
            clear hA hIk
            generalize wd (xB bs) k = V at *
            generalize sI (V : Int) = sV at *
            go_wp2_with (first
              | (go_at_call 29; refine hRA.mono ?_; rintro _ _ ⟨rfl, q7, rfl⟩; have HB7 := Lib.hid (below_dr HBx.out q7); have hO1 := Lib.hid (show (wr.drewN q7).ownsRow hi 2 1 (.slice ao (k + 1) cap) (k + 1) ((lst (seq0 T (xB bs)) (k + 1)).map tV) from HOt.out.row); have hba : Hid (∀ o, hi ≤ ((wr.drewN q7).alloc o).heap.size) := Lib.hid (fun o => by have h6 := HSz.out; have e0 : (wr.drewN q7).heap.size = wr.heap.size := rfl; have e2 : ((wr.drewN q7).alloc o).heap.size = (wr.drewN q7).heap.size + 1 := (by simp); omega); clear hRA)
              | (at_builtin; refine wpList_append_rd _ rfl (.tmp 48) (.tmp 55) 47 rfl hi 2 (.int .i64 0) 1 8 Tryd.underlying47 infoI64 rfl (by decide) (.slice ao (k + 1) cap) (k + 1) ((lst (seq0 T (xB bs)) (k + 1)).map tV) rfl (World.ownsRow.alloc hO1.out _) (.slice (some ⟨_, 0, none⟩) 1 1) 1 [tV sV] rfl (RdV.one _ _ 2) (one_one _ rfl) h63.out hby.out (hba.out _) ?_; intro ao6 cap6 w6 hg6; have HG := Lib.hid hg6.ofAlloc; clear hg6))
            go_roundg (gk - 1)
            case measure => go_light; omega
            case rel =>
              go_light
              exact ⟨k + 1, I + 1, ao6, cap6, by omega, by have := HIK.out; omega, by go_num, rfl, Lib.hid (OwnT.next hcell.out HG.out), Lib.hid (HB7.out.trans (HG.out.below HB7.out.size (fun j hj => by have h8 := (World.ownsRow.lt hO1.out j hj).1; have h9 := HHI.out; omega))), Lib.hid (Nat.le_trans HSz.out HG.out.grown.size)⟩
      · by_cases hM1 : M = 1
        · subst hM1
          obtain ⟨Rm, hRm⟩ : ∃ Rm, Rm = if 8 ≤ (xB bs).length then n1 else 0 := ⟨_, rfl⟩
          have HCD : Hid (candR bs = some (lst (seq1 T (wd (xB bs) 0)) (Rm + 1))) := Lib.hid (by
            rw [HC2.out, if_neg (by decide), if_pos rfl, hRm]
            by_cases h8 : 8 ≤ (xB bs).length
            · rw [if_pos h8, if_pos h8]
            · rw [if_neg h8, if_neg h8])
          have HRM : Hid ((8 ≤ (xB bs).length ∧ Rm = n1) ∨ (¬ 8 ≤ (xB bs).length ∧ Rm = 0)) := Lib.hid (by
            by_cases h8 : 8 ≤ (xB bs).length
            · left; exact ⟨h8, by rw [hRm, if_pos h8]⟩
            · right; exact ⟨h8, by rw [hRm, if_neg h8]⟩)
          have hRm9 : Rm ≤ 999 := by rcases HRM.out with ⟨_, h⟩ | ⟨_, h⟩ <;> omega
          have HRA : Hid (8 ≤ (xB bs).length → ∀ wx, Rd wx (.slice ao5 (xB bs).length cap5) (xB bs) → Calls Tryd.prog 29 #[.slice ao5 (xB bs).length cap5, .int .i64 0, .int .i64 8] wx fun e w' => e = .returned (.int .u64 ((wd (xB bs) 0 : Nat) : Int)) ∧ ∃ m, w' = wx.drewN m) := Lib.hid (fun h8 wx hx => by
            have := readAt_any (xB bs) 0 8 (by decide) (by omega) hxl _ wx hx
            rw [show (xB bs).drop 0 = (xB bs).drop (8 * 0) by rfl, wd_read (by omega)] at this
            exact this)
          have hD := wd_lt (xB bs) 0
          clear hRm
          generalize wd (xB bs) 0 = D at *
          go_wp2_with fail
          go_loopg [5, 8] Rm (fun m s5 s8 wr => ∃ (k I : Nat) (ao : Option Addr) (cap : Nat), k + m = Rm ∧ I = k + 1 ∧ s8 = .int .i64 (I : Int) ∧ s5 = .slice ao I cap ∧ Hid (OwnT wr hi (.slice ao I cap) (lst (seq1 T D) I)) ∧ Hid (Below w.heap.size w wr) ∧ Hid (hi ≤ wr.heap.size))
          case atStart => exact ⟨0, 1, some ⟨hi, 0, none⟩, 1, by omega, rfl, rfl, rfl, Lib.hid (by have := lst_one (seq1 T D); rw [Nat.zero_add] at this; rw [this]; exact hOL.out), HB6, HS6⟩
          case round =>
            clear hOL HB6 HS6 hc06 hw56
            obtain ⟨k, I, ao, cap, hk, hIk, rfl, rfl, HOt, HBx, HSz⟩ := hrel
            by_cases h0 : gk = 0
            · have hkR : k = Rm := by omega
              have HCS : (¬ (I : Int) < (n1 : Int) + 1) ∨ ((I : Int) < (n1 : Int) + 1 ∧ ¬ (8 : Int) ≤ ((xB bs).length : Int)) := by rcases HRM.out with ⟨_, h⟩ | ⟨_, h⟩ <;> omega
              have HCD2 : Hid (candR bs = some (lst (seq1 T D) I)) := Lib.hid (by rw [HCD.out, hIk, hkR])
              clear hIk hk hkR HCD
              rcases HCS with hc | ⟨hc, hc2⟩
              · go_wp2_with fail
                go_ret2
                exact ⟨HBx.out, .inr ⟨lst (seq1 T D) I, ao, cap, HCD2.out, by rw [lst_len]; go_light; rfl, by rw [lst_len]; exact HOt.out.tms⟩⟩
              · go_wp2_with fail
                go_ret2
                exact ⟨HBx.out, .inr ⟨lst (seq1 T D) I, ao, cap, HCD2.out, by rw [lst_len]; go_light; rfl, by rw [lst_len]; exact HOt.out.tms⟩⟩
            · have hkn : k < Rm := by omega
              have h8 : 8 ≤ (xB bs).length ∧ Rm = n1 := by rcases HRM.out with h | h; exact h; omega
              have hc1 : (I : Int) < (n1 : Int) + 1 := by omega
              have hc2 : (8 : Int) ≤ ((xB bs).length : Int) := by omega
              have hI9 : (I : Int) ≤ 1000 := by omega
              have hIk1 : (I : Int) - 1 = (k : Int) := by omega
              have hwk : IntKind.i64.wrap ((I : Int) - 1) = (k : Int) := by rw [hIk1]; exact IntWalk.i64_in _ (by omega)
              have hwk2 : IntKind.i64.wrap (k : Int) = (k : Int) := IntWalk.i64_in _ (by omega)
              have hk0 : (0 : Int) ≤ (k : Int) := by omega
              have hkI : k < I := by omega
              have hkI2 : (k : Int) < (I : Int) := by omega
              obtain ⟨g, goff, rfl, hgl, hcT⟩ := ownT_at HOt.out k hkI
              have hRA := fun wx hx => HRA.out h8.1 wx hx
              have HRd := Lib.hid (show Rd wr (.slice ao5 (xB bs).length cap5) (xB bs) from RdV.below HRx.out.v HBx.out)
              have hUU := uT_sI2 (seq1 T D k) (seq1_lt T D hT k)
              have hadd : IntKind.u64.wrap (((seq1 T D k : Nat) : Int) + (D : Int)) = ((seq1 T D (k + 1) : Nat) : Int) := u64_wrap _
              have hsw := i64_wrap ((seq1 T D (k + 1) : Nat) : Int)
              have h63 : Hid (I + 1 ≤ maxLen) := Lib.hid (by unfold maxLen; omega)
              have hby : Hid ((I + 1) * 8 ≤ 140737488355328) := Lib.hid (by omega)
              have hod : Hid (wr.ownsRow hi 2 1 (.slice (some ⟨g, goff, none⟩) I cap) I ((lst (seq1 T D) I).map tV)) := Lib.hid HOt.out.row
              have hba : Hid (∀ m o, hi ≤ ((wr.drew.drewN m).alloc o).heap.size) := Lib.hid (fun m o => by have h6 := HSz.out; have e0 : (wr.drew.drewN m).heap.size = wr.heap.size := rfl; have e2 : ((wr.drew.drewN m).alloc o).heap.size = (wr.drew.drewN m).heap.size + 1 := (by simp); omega)
              obtain ⟨V, hV⟩ : ∃ V, V = seq1 T D (k + 1) := ⟨_, rfl⟩
              rw [← hV] at hadd hsw
              obtain ⟨sV, hsV⟩ : ∃ sV, sV = sI (V : Int) := ⟨_, rfl⟩
              rw [← hsV] at hsw
              have hcell2 : Hid (sV = sI ((seq1 T D I : Nat) : Int)) := Lib.hid (by rw [hsV, hV, hIk])
              have HIK := Lib.hid hIk
              clear hV hsV hIk h8
              generalize seq1 T D k = U at *
              generalize sI (U : Int) = sU at *
              go_upto_region 18 with fail
              go_region_law (first
                | (refine step_append_rd _ rfl (.tmp 69) (.tmp 80) 47 rfl hi 2 (.int .i64 0) 1 8 Tryd.underlying47 infoI64 rfl (by decide) (.slice (some ⟨g, goff, none⟩) I cap) I ((lst (seq1 T D) I).map tV) rfl (World.ownsRow.alloc (by exact hod.out) _) (.slice (some ⟨_, 0, none⟩) 1 1) 1 [tV sV] rfl (RdV.one _ _ _) (one_one _ rfl) h63.out hby.out (by exact hba.out q7 _) ?_; intro ao6 cap6 w6b hg6; have HG := Lib.hid hg6.ofAlloc; clear hg6)
                | (go_simp; go_at_call 29; refine (hRA _ (by exact HRd.out)).mono ?_; rintro _ _ ⟨rfl, q7, rfl⟩))
              all_goals
                go_wp2
                go_roundg (gk - 1)
                case measure => go_light; omega
                case rel =>
                  go_light
                  exact ⟨k + 1, I + 1, ao6, cap6, by omega, by have := HIK.out; omega, by go_num, rfl, Lib.hid (OwnT.next hcell2.out HG.out), Lib.hid ((below_dr HBx.out (1 + q7)).trans (HG.out.below HBx.out.size (fun j hj => by have h8 := (World.ownsRow.lt hod.out j hj).1; have h9 := HHI.out; omega))), Lib.hid (Nat.le_trans HSz.out HG.out.grown.size)⟩
        · by_cases hM2 : M = 2
          · subst hM2
            have hC2 := HC2.out
            rw [if_neg (by decide), if_neg (by decide), if_pos rfl, unD_cand] at hC2
            have hUn := runpack_any (xB bs) (n1 : Int) (by omega) (by omega) _ w6 hxl ⟨n1, by omega, .inl (Int.le_refl _)⟩ (RdV.below HRx.out.v HB6.out)
            have hlt := unD_lt (xB bs) (n1 : Int)
            obtain ⟨l, hlD⟩ : ∃ l, l = unD (xB bs) (n1 : Int) := ⟨_, rfl⟩
            have HLD := Lib.hid hlD
            rw [← hlD] at hC2 hlt
            have HCD0 := Lib.hid hC2
            have HLT := Lib.hid hlt
            clear hlD hC2 hlt
            obtain ⟨q, hq⟩ : ∃ q, q = l.length := ⟨_, rfl⟩
            have HQ := Lib.hid hq
            have HCD : Hid (candR bs = some (lst (seq2 T l) (q + 1))) := Lib.hid (by rw [hq]; exact HCD0.out)
            clear hq HCD0
            go_wp2_with (go_at_call 79; refine hUn.mono ?_; intro e w7 h; obtain ⟨hb7, lo, lc, m7, rfl, hnl, hln⟩ := unD_one h; rw [← HLD.out, ← HQ.out] at hnl hln ⊢; have HB7 := Lib.hid (HB6.out.trans (hb7.mono HB6.out.size)); have HNL2 := Lib.hid (show OwnN w7 w6.heap.size (.slice lo q lc) l from hnl); have HLN : Hid (q ≤ 999) := Lib.hid (by rcases hln with h9 | h9; (have := HQ.out; rw [h9] at this; simp at this; omega); omega); have HO7 := Lib.hid (show OwnT w7 hi _ [sI (T : Int)] from (Chg.ofBelowAny (S := fun _ => False) hb7).owns hOL.out (fun _ _ h => h)); have HS7 : Hid (hi ≤ w7.heap.size) := Lib.hid (Nat.le_trans HS6.out hb7.size); clear hb7 hUn h hnl hln hOL HB6 HS6 hc06)
            have hq9 : q ≤ 999 := HLN.out
            go_loopg [5, 11, 93] q (fun m s5 s11 s93 wr => ∃ (k I : Nat) (ao : Option Addr) (cap : Nat), k + m = q ∧ I = k + 1 ∧ s93 = .int .i64 (k : Int) ∧ s11 = .int .u64 ((dd l k : Nat) : Int) ∧ s5 = .slice ao I cap ∧ Hid (OwnT wr hi (.slice ao I cap) (lst (seq2 T l) I)) ∧ Hid (Below w.heap.size w wr) ∧ Hid (hi ≤ wr.heap.size) ∧ Hid (OwnN wr w6.heap.size (.slice lo q lc) l) ∧ Hid (∀ j, (Value.slice ao I cap).ownBlock = some j → (Value.slice lo q lc).ownBlock ≠ some j))
            case atStart => exact ⟨0, 1, some ⟨hi, 0, none⟩, 1, by omega, rfl, rfl, rfl, rfl, Lib.hid (by have := lst_one (seq2 T l); rw [Nat.zero_add] at this; rw [this]; exact HO7.out), HB7, HS7, HNL2, Lib.hid (fun j hj e => by
              have h8 := (World.ownsRow.lt HNL2.out j e).1
              have h9 := hw56.out
              simp only [Value.ownBlock, Option.some.injEq] at hj
              omega)⟩
            case round =>
              clear HO7 HB7 HS7 HNL2 hw56
              obtain ⟨k, I, ao, cap, hk, hIk, rfl, rfl, rfl, HOt, HBx, HSz, HNL, HDJ⟩ := hrel
              by_cases h0 : gk = 0
              · have HCD2 : Hid (candR bs = some (lst (seq2 T l) I)) := Lib.hid (by rw [HCD.out, hIk, show k = q by omega])
                obtain rfl : k = q := by omega
                clear hIk hk HCD
                go_wp2_with fail
                go_ret2
                exact ⟨HBx.out, .inr ⟨lst (seq2 T l) I, ao, cap, HCD2.out, by rw [lst_len]; go_light; rfl, by rw [lst_len]; exact HOt.out.tms⟩⟩
              · have hkn : k < q := by omega
                have hkI : k < I := by omega
                have hkI2 : (k : Int) < (I : Int) := by omega
                obtain ⟨g, goff, rfl, hgl, hcT⟩ := ownT_at HOt.out k hkI
                obtain ⟨b, off, bcap, he, _, hc⟩ := num_at HNL.out.nums k (by rw [← HQ.out]; exact hkn)
                simp only [Value.slice.injEq] at he
                obtain ⟨rfl, h9, rfl⟩ := he
                have hlk := HLT.out (l.getD k 0) (by
                  have hkl : k < l.length := by rw [← HQ.out]; exact hkn
                  rw [show l.getD k 0 = l[k] by simp [hkl]]; exact List.getElem_mem hkl)
                have hzag := fun (wx : World) => rzag_any (l.getD k 0) hlk wx
                have hd1 : IntKind.u64.wrap (((dd l k : Nat) : Int) + IntKind.u64.wrap (zagZ (l.getD k 0))) = ((dd l (k + 1) : Nat) : Int) := by rw [u64_wrap (zagZ _), u64_wrap, uT_addr]; rfl
                have hUU := uT_sI2 (seq2 T l k) (seq2_lt T l hT k)
                have hadd : IntKind.u64.wrap (((seq2 T l k : Nat) : Int) + ((dd l (k + 1) : Nat) : Int)) = ((seq2 T l (k + 1) : Nat) : Int) := u64_wrap _
                have hsw := i64_wrap ((seq2 T l (k + 1) : Nat) : Int)
                have h63 : Hid (I + 1 ≤ maxLen) := Lib.hid (by unfold maxLen; omega)
                have hby : Hid ((I + 1) * 8 ≤ 140737488355328) := Lib.hid (by omega)
                have hO1 := Lib.hid HOt.out.row
                have hba : Hid (∀ o, hi ≤ (wr.alloc o).heap.size) := Lib.hid (fun o => by have h6 := HSz.out; have e2 : (wr.alloc o).heap.size = wr.heap.size + 1 := (by simp); omega)
                obtain ⟨V, hV⟩ : ∃ V, V = seq2 T l (k + 1) := ⟨_, rfl⟩
                rw [← hV] at hadd hsw
                obtain ⟨sV, hsV⟩ : ∃ sV, sV = sI (V : Int) := ⟨_, rfl⟩
                rw [← hsV] at hsw
                have hcell2 : Hid (sV = sI ((seq2 T l I : Nat) : Int)) := Lib.hid (by rw [hsV, hV, hIk])
                obtain ⟨D2, hD2⟩ : ∃ D2, D2 = dd l (k + 1) := ⟨_, rfl⟩
                rw [← hD2] at hd1 hadd
                have HD2 := Lib.hid hD2
                have HIK := Lib.hid hIk
                clear hV hsV h9 hlk hD2 hIk
                generalize dd l k = D1 at *
                generalize seq2 T l k = U at *
                generalize sI (U : Int) = sU at *
                generalize zagZ (l.getD k 0) = z at *
                generalize l.getD k 0 = x at *
                go_wp2_with (first
                  | (go_at_call 80; refine (hzag _).mono ?_; rintro _ _ ⟨rfl, rfl⟩)
                  | (at_builtin; refine wpList_append_rd _ rfl (.tmp 104) (.tmp 113) 47 rfl hi 2 (.int .i64 0) 1 8 Tryd.underlying47 infoI64 rfl (by decide) (.slice (some ⟨g, goff, none⟩) I cap) I ((lst (seq2 T l) I).map tV) rfl (World.ownsRow.alloc hO1.out _) (.slice (some ⟨_, 0, none⟩) 1 1) 1 [tV sV] rfl (RdV.one _ _ 2) (one_one _ rfl) h63.out hby.out (hba.out _) ?_; intro ao6 cap6 w6b hg6; have HG := Lib.hid hg6.ofAlloc; clear hg6))
                go_roundg (gk - 1)
                case measure => go_light; omega
                case rel =>
                  go_light
                  exact ⟨k + 1, I + 1, ao6, cap6, by omega, by have := HIK.out; omega, by go_num, by rw [HD2.out], rfl, Lib.hid (OwnT.next hcell2.out HG.out), Lib.hid (HBx.out.trans (HG.out.below HBx.out.size (fun j hj => by have h8 := (World.ownsRow.lt hO1.out j hj).1; have h9 := HHI.out; omega))), Lib.hid (Nat.le_trans HSz.out HG.out.grown.size), Lib.hid (HG.out.chg.owns HNL.out (fun j hj e => HDJ.out j e hj)), Lib.hid (fun j hj e => by
                    rcases HG.out.row j hj with h8 | h8
                    · exact HDJ.out j h8 e
                    · have := (World.ownsRow.lt HNL.out j e).2; omega)⟩
          · have HCD : Hid (candR bs = some (lst (fun _ => T) (0 + 1))) := Lib.hid (by rw [HC2.out, if_neg hM0, if_neg hM1, if_neg hM2])
            have hm0 : ((M : Int) == 0) = false := decide_eq_false (by omega)
            have hm1 : ((M : Int) == 1) = false := decide_eq_false (by omega)
            have hm2 : ((M : Int) == 2) = false := decide_eq_false (by omega)
            have HOt : Hid (OwnT w6 hi (.slice (some ⟨hi, 0, none⟩) (0 + 1) 1) (lst (fun _ => T) (0 + 1))) := Lib.hid (by rw [lst_one]; exact hOL.out)
            go_wp2_with fail
            go_ret2
            exact ⟨HB6.out, .inr ⟨lst (fun _ => T) (0 + 1), _, _, HCD.out, by rw [lst_len]; go_light; rfl, by rw [lst_len]; exact HOt.out.tms⟩⟩
end Go.Proofs.YthiojdkhapbbnaaDoor

/- XRStDec2: gristref05.Decode; gristlaw05.same. -/
namespace Go.Proofs.YthiojdkhapbbnaaDoor
open Go.RowKit
set_option linter.unusedVariables false

set_option maxHeartbeats 2000000 in
set_option maxRecDepth 100000 in
theorem rdecode_any (bs : List UInt8) (v : Value) (w : World) (hl : bs.length ≤ 140737488355328) (hr : Rd w v bs) :
    Calls Tryd.prog 30 #[v] w fun e w' => DecEnd bs w e w' := by
  obtain ⟨ao0, cap0, rfl, hnc, hcm⟩ := RdV.shape hr
  unfold maxLen at hcm
  have HR := Lib.hid hr
  have hRd := read_any bs _ w hl hr
  clear hr
  cases hcr : candR bs with
  | none =>
    have HU := Lib.hid (dec_candR_none hcr)
    unfold ReadEnd at hRd
    rw [hcr] at hRd
    clear hcr
    have hE := fun (wx : World) => rencode_any [] (.slice none 0 0) wx (by intro x hx; cases hx) (RdV.nil _ _)
    have hn : encS ([] : List Int) = none := encS_none (.inl rfl)
    go_enter Tryd.func30, Tryd.ntmps30
    go_upto_region 2 with (go_at_call 60; refine hRd.mono ?_; rintro e w2 ⟨hb2, h⟩; rcases h with ⟨_, rfl⟩ | ⟨_, _, _, h, _⟩; have HB2 := Lib.hid hb2; clear hb2 hRd; rotate_left 1; cases h)
    go_upto_region 3 with (go_at_call 17; refine (hE _).mono ?_; rintro e w3 ⟨hb3, h⟩; rw [hn] at h; rcases h with ⟨_, rfl⟩ | ⟨_, _, _, h, _⟩; have HB3 := Lib.hid (HB2.out.trans (hb3.mono HB2.out.size)); clear hb3 hE; rotate_left 1; cases h)
    go_wp2_with fail
    go_ret2
    exact ⟨HB3.out, .inl ⟨HU.out, by go_light; rfl⟩⟩
  | some t =>
    have HCR := Lib.hid hcr
    unfold ReadEnd at hRd
    rw [hcr] at hRd
    have hE := fun (v : Value) (wx : World) (h : Tms wx v t) => rencode_any t v wx (candR_ok hcr) h
    clear hcr
    go_enter Tryd.func30, Tryd.ntmps30
    go_upto_region 2 with (go_at_call 60; refine hRd.mono ?_; rintro e w2 ⟨hb2, h⟩; rcases h with ⟨h, _⟩ | ⟨t2, tto, tc, h, rfl, ht⟩; cases h; obtain rfl : t = t2 := (by simpa using h); have HB2 := Lib.hid hb2; have HT2 := Lib.hid ht; clear hb2 hRd ht h)
    cases hes : encS t with
    | none =>
      have HU := Lib.hid (dec_candR HCR.out (by rw [hes]; simp))
      go_upto_region 3 with (go_at_call 17; refine (hE _ _ HT2.out).mono ?_; rintro e w3 ⟨hb3, h⟩; rw [hes] at h; rcases h with ⟨_, rfl⟩ | ⟨_, _, _, h, _⟩; have HB3 := Lib.hid (HB2.out.trans (hb3.mono HB2.out.size)); clear hb3 hE; rotate_left 1; cases h)
      go_wp2_with fail
      go_ret2
      exact ⟨HB3.out, .inl ⟨HU.out, by go_light; rfl⟩⟩
    | some c =>
      have HES := Lib.hid hes
      clear hes
      go_upto_region 3 with (go_at_call 17; refine (hE _ _ HT2.out).mono ?_; rintro e w3 ⟨hb3, h⟩; rw [HES.out] at h; rcases h with ⟨h, _⟩ | ⟨c2, co, cc, h, _, _, rfl, ho3⟩; cases h; obtain rfl : c = c2 := (by simpa using h); have HB3 := Lib.hid (HB2.out.trans (hb3.mono HB2.out.size)); have c4 := run_str ho3.rd 24 5 9 Tryd.underlying24 Tryd.underlying5 Tryd.underlying9; have c5 := run_str (RdV.below HR.out.v HB3.out) 24 5 9 Tryd.underlying24 Tryd.underlying5 Tryd.underlying9; have HT3 := Lib.hid (show Tms w3 (.slice tto t.length tc) t from RdV.below HT2.out hb3); clear hb3 hE ho3 h)
      by_cases hcb : c = bs
      · subst hcb
        have HU := Lib.hid (decS_of (candR_ok HCR.out) HES.out)
        go_wp2_with fail
        go_ret2
        exact ⟨HB3.out, .inr ⟨t, tto, tc, HU.out, by go_light; rfl, HT3.out⟩⟩
      · have HU := Lib.hid (dec_candR HCR.out (by rw [HES.out]; intro h; exact hcb (by simpa using h)))
        have hst : (c == bs) = false := by simpa using hcb
        go_wp2_with fail
        go_ret2
        exact ⟨HB3.out, .inl ⟨HU.out, by go_light; rfl⟩⟩

/-- A Decode's result as times and an error. -/
def deO (bs : List UInt8) : List Int × Nat := match decS bs with
  | none => ([], 2)
  | some t => (t, 0)
theorem deO_one {bs : List UInt8} {w w' : World} {e : Ending} (h : DecEnd bs w e w') :
    Below w.heap.size w w' ∧ ∃ ao cap, e = .returned (.tuple #[.slice ao (deO bs).1.length cap, .int .i64 ((deO bs).2 : Int)]) ∧ Tms w' (.slice ao (deO bs).1.length cap) (deO bs).1 := by
  refine ⟨h.1, ?_⟩
  unfold deO
  rcases h.2 with ⟨h1, rfl⟩ | ⟨t, ao, cap, h1, rfl, ho⟩
  · rw [h1]
    exact ⟨none, 0, rfl, RdV.nil _ _⟩
  · rw [h1]
    exact ⟨ao, cap, rfl, ho⟩
end Go.Proofs.YthiojdkhapbbnaaDoor
