/- The contracts of bits.NewReader, (*Reader).Get, Left and Bad. -/
import Derived.Test.YtmhmmnleijadnaaWriter
namespace Go.Proofs.Ytmhmmnleijadnaa
open Go.RowKit

/-- A reader of the bytes bs that lies at block blk, its memory in the blocks lo .. hi - 1; so many bits are read; whether there were too few. -/
def Rdr (w : World) (blk lo hi : Nat) (bs : List UInt8) (pos : Nat) (bad : Bool) : Prop :=
  ∃ sv, w.cell? ⟨blk, 0, none⟩ = some sv ∧ w.cell? ⟨blk, 1, none⟩ = some (.int .i64 (pos : Nat)) ∧ w.cell? ⟨blk, 2, none⟩ = some (.bool bad) ∧ w.frozen? ⟨blk, 1, none⟩ = false ∧ w.frozen? ⟨blk, 2, none⟩ = false ∧
    Rd w sv bs ∧ (∀ k, sv.ownBlock = some k → lo ≤ k ∧ k < hi ∧ k ≠ blk) ∧ lo ≤ blk ∧ blk < hi ∧ hi ≤ w.heap.size ∧ pos ≤ 8 * bs.length ∧ bs.length ≤ 140737488355328

theorem Rdr.keep {w w' : World} {blk lo hi pos : Nat} {bs : List UInt8} {bad : Bool} {S : Nat → Prop} (h : Rdr w blk lo hi bs pos bad) (hc : Chg S w w') (hs : ∀ k, lo ≤ k → k < hi → ¬ S k) : Rdr w' blk lo hi bs pos bad := by
  obtain ⟨sv, c0, c1, c2, f1, f2, hr, hb, h1, h2, h3, h4, h5⟩ := h
  have hl : blk < w.heap.size := by omega
  have hS := hs blk h1 h2
  exact ⟨sv, (hc.cell (p := ⟨blk, 0, none⟩) hl hS).trans c0, (hc.cell (p := ⟨blk, 1, none⟩) hl hS).trans c1, (hc.cell (p := ⟨blk, 2, none⟩) hl hS).trans c2, (hc.frozen (p := ⟨blk, 1, none⟩) hl hS).trans f1, (hc.frozen (p := ⟨blk, 2, none⟩) hl hS).trans f2,
    RdV.chg hr hc (fun k hk => hs k (hb k hk).1 (hb k hk).2.1), hb, h1, h2, by have := hc.size; omega, h4, h5⟩
theorem Rdr.below {w w' : World} {blk lo hi pos : Nat} {bs : List UInt8} {bad : Bool} (h : Rdr w blk lo hi bs pos bad) (hc : Below w.heap.size w w') : Rdr w' blk lo hi bs pos bad :=
  h.keep (S := fun _ => False) (Chg.ofBelowAny hc) (fun _ _ _ h => h)

set_option maxHeartbeats 400000 in
theorem newReader_any (v : Value) (bs : List UInt8) (w : World) (hl : bs.length ≤ 140737488355328) (hr : Rd w v bs) :
    Calls Try.prog 32 #[v] w fun e w' => ∃ blk, e = .returned (.pointer (some ⟨blk, 0, none⟩)) ∧ Rdr w' blk w.heap.size w'.heap.size bs 0 false ∧ Below w.heap.size w w' := by
  have h63 : 0 + bs.length ≤ maxLen := by unfold maxLen; omega
  have hby : (0 + bs.length) * 1 ≤ 140737488355328 := by omega
  go_enter Try.func32, Try.ntmps32
  go_wp2_with (at_builtin; refine wpList_append_rd _ rfl (.const (.slice none 0 0)) (.tmp 3) 47 rfl w.heap.size 5 (.int .u8 0) 1 1 Try.underlying47 infoU8 rfl (by decide) (.slice none 0 0) 0 [] rfl (World.ownsRow_nil _ _ _ _) v _ _ rfl hr (bV_one _) h63 hby (Nat.le_refl _) ?_; intro ao cap w1 hg; have HG := Lib.hid hg; clear hg)
  go_ret
  obtain ⟨h1, h2, h3⟩ := HG.out
  have hbel : Below w.heap.size w w1 := (Below.refl _ _).grown h2 (Nat.le_refl _) (fun k h => by simp [Value.ownBlock] at h)
  have hsz := hbel.size
  simp only [Nat.zero_add, List.nil_append] at h1 ⊢
  refine ⟨w1.heap.size, rfl, ⟨_, by simp [World.cell?_alloc_new], by simp [World.cell?_alloc_new], by simp [World.cell?_alloc_new], by simp [go_sem], by simp [go_sem], (RdV.ofOwns h1).alloc _, ?_, hsz, by simp, Nat.le_refl _, Nat.zero_le _, hl⟩, hbel.alloc hsz _⟩
  intro k hk
  have := h1.lt k hk
  simp
  omega

set_option maxHeartbeats 400000 in
theorem bad_any (blk lo hi pos : Nat) (bs : List UInt8) (bad : Bool) (w : World) (hr : Rdr w blk lo hi bs pos bad) :
    Calls Try.prog 36 #[.pointer (some ⟨blk, 0, none⟩)] w fun e w' => e = .returned (.bool bad) ∧ w = w' := by
  obtain ⟨sv, c0, c1, c2, _⟩ := hr
  go_enter Try.func36, Try.ntmps36
  go_wp2
  go_ret
  exact ⟨rfl, rfl⟩

set_option maxHeartbeats 400000 in
theorem badNil_any (w : World) :
    Calls Try.prog 36 #[.pointer none] w fun e w' => e = .returned (.bool true) ∧ w = w' := by
  go_enter Try.func36, Try.ntmps36
  go_wp2
  go_ret
  exact ⟨rfl, rfl⟩

theorem below_drewN {w : World} (n : Nat) : Below w.heap.size w (w.drewN n) := ⟨rfl, rfl, rfl, Nat.le_refl _, fun _ _ => rfl⟩

set_option maxHeartbeats 400000 in
theorem left_any (blk lo hi pos : Nat) (bs : List UInt8) (bad : Bool) (w : World) (hr : Rdr w blk lo hi bs pos bad) :
    Calls Try.prog 37 #[.pointer (some ⟨blk, 0, none⟩)] w fun e w' => e = .returned (.int .i64 (if bad then 0 else ((8 * bs.length - pos : Nat) : Int))) ∧ ∃ n, w' = w.drewN n := by
  have hr' := hr
  obtain ⟨sv, c0, c1, c2, f1, f2, hrd, hb, h1, h2, h3, h4, h5⟩ := hr
  obtain ⟨ao, cap, rfl, hlc, hcm⟩ := RdV.shape hrd
  cases bad with
  | true =>
    go_enter Try.func37, Try.ntmps37
    go_wp2_with (go_at_call 36; refine (bad_any _ _ _ _ _ _ _ hr').mono ?_; rintro e w' ⟨rfl, rfl⟩)
    go_ret
    exact ⟨rfl, 0, rfl⟩
  | false =>
    go_enter Try.func37, Try.ntmps37
    go_wp2_with (go_at_call 36; refine (bad_any _ _ _ _ _ _ _ hr').mono ?_; rintro e w' ⟨rfl, rfl⟩)
    go_quiet (fail)
    go_wp2
    go_ret
    exact ⟨by simp; omega, nq, rfl⟩

set_option maxHeartbeats 400000 in
theorem leftNil_any (w : World) :
    Calls Try.prog 37 #[.pointer none] w fun e w' => e = .returned (.int .i64 0) ∧ w = w' := by
  go_enter Try.func37, Try.ntmps37
  go_wp2_with (go_at_call 36; refine (badNil_any _).mono ?_; rintro e w' ⟨rfl, rfl⟩)
  go_ret
  exact ⟨rfl, rfl⟩

set_option maxHeartbeats 400000 in
theorem getNil_any (n : Int) (w : World) :
    Calls Try.prog 33 #[.pointer none, .int .i64 n] w fun e w' => e = .returned (.int .u64 0) ∧ w = w' := by
  go_enter Try.func33, Try.ntmps33
  go_wp2_with (go_at_call 36; refine (badNil_any _).mono ?_; rintro e w' ⟨rfl, rfl⟩)
  go_ret
  exact ⟨rfl, rfl⟩

set_option maxHeartbeats 400000 in
theorem getBad_any (blk lo hi pos : Nat) (bs : List UInt8) (n : Int) (w : World) (hr : Rdr w blk lo hi bs pos true) :
    Calls Try.prog 33 #[.pointer (some ⟨blk, 0, none⟩), .int .i64 n] w fun e w' => e = .returned (.int .u64 0) ∧ w = w' := by
  go_enter Try.func33, Try.ntmps33
  go_wp2_with (go_at_call 36; refine (bad_any _ _ _ _ _ _ _ hr).mono ?_; rintro e w' ⟨rfl, rfl⟩)
  go_ret
  exact ⟨rfl, rfl⟩

set_option maxHeartbeats 400000 in
theorem getOut_any (blk lo hi pos : Nat) (bs : List UInt8) (n : Int) (hn : n < 1 ∨ 64 < n) (w : World) (hr : Rdr w blk lo hi bs pos false) :
    Calls Try.prog 33 #[.pointer (some ⟨blk, 0, none⟩), .int .i64 n] w fun e w' => e = .returned (.int .u64 0) ∧ w = w' := by
  by_cases h1 : n < 1
  · go_enter Try.func33, Try.ntmps33
    go_wp2_with (go_at_call 36; refine (bad_any _ _ _ _ _ _ _ hr).mono ?_; rintro e w' ⟨rfl, rfl⟩)
    go_ret
    exact ⟨rfl, rfl⟩
  · have h2 : 64 < n := by omega
    go_enter Try.func33, Try.ntmps33
    go_wp2_with (go_at_call 36; refine (bad_any _ _ _ _ _ _ _ hr).mono ?_; rintro e w' ⟨rfl, rfl⟩)
    go_ret
    exact ⟨rfl, rfl⟩

/-- A read has too few bits: the reader is bad from then on. -/
theorem getFew_any (blk lo hi pos : Nat) (bs : List UInt8) (n : Int) (h1n : 1 ≤ n) (h64 : n ≤ 64) (hfew : ((8 * bs.length - pos : Nat) : Int) < n) (w : World) (hr : Rdr w blk lo hi bs pos false) :
    Calls Try.prog 33 #[.pointer (some ⟨blk, 0, none⟩), .int .i64 n] w fun e w' => e = .returned (.int .u64 0) ∧ Rdr w' blk lo hi bs pos true ∧ Chg (fun k => k = blk) w w' := by
  have hr0 := hr
  obtain ⟨sv, c0, c1, c2, f1, f2, hrd, hb, h1, h2, h3, h4, h5⟩ := hr
  have hlft := left_any blk lo hi pos bs false w hr0
  simp only [Bool.false_eq_true, if_false] at hlft
  go_enter Try.func33, Try.ntmps33
  go_wp2_with (first | (go_at_call 36; refine (bad_any _ _ _ _ _ _ _ hr0).mono ?_; rintro e w' ⟨rfl, rfl⟩) | (go_at_call 37; refine hlft.mono ?_; rintro e w' ⟨rfl, nq, rfl⟩))
  go_ret
  have hc : Chg (fun k => k = blk) w ((w.drewN nq).setCell ⟨blk, 2, none⟩ (.bool true)) := (show Chg (fun k => k = blk) w (w.drewN nq) from ⟨rfl, rfl, rfl, Nat.le_refl _, fun _ _ _ => rfl⟩).setCell (p := ⟨blk, 2, none⟩) (fun _ => rfl) _
  refine ⟨rfl, ⟨sv, ?_, ?_, ?_, ?_, ?_, RdV.chg hrd hc (fun k hk => (hb k hk).2.2), hb, h1, h2, by simpa using h3, h4, h5⟩, hc⟩
  · simp [go_sem, c0]
  · simp [go_sem, c1]
  · simp [go_sem, c2]
  · simp [go_sem, f1]
  · simp [go_sem, f2]

theorem get_byte (x : UInt8) (v p c : Nat) (hp : p < 8) (h1 : 1 ≤ c) (hc : p + c ≤ 8) (hv : v * 2 ^ c + x.toNat / 2 ^ (8 - p - c) % 2 ^ c < 18446744073709551616) :
    Go.bits .or .u64 (IntKind.u64.wrap ((v : Int) * 2 ^ c)) (IntKind.u64.wrap (Go.bits .and .u8 ((x.toNat : Int) / 2 ^ (8 - p - c)) (((2 : Int) ^ c - 1) % 256))) = ((v * 2 ^ c + x.toNat / 2 ^ (8 - p - c) % 2 ^ c : Nat) : Int) := by
  have hx := x.toNat_lt
  have hcp : (2 : Nat) ^ c ≤ 256 := Nat.pow_le_pow_right (n := 2) (by omega) (show c ≤ 8 by omega)
  have hcp1 : 2 ≤ (2 : Nat) ^ c := by have := Nat.pow_le_pow_right (n := 2) (by omega) h1; omega
  have e0 : (2 : Int) ^ c = ((2 ^ c : Nat) : Int) := by simp
  have e1 : ((2 : Int) ^ c - 1) % 256 = ((2 ^ c - 1 : Nat) : Int) := by rw [e0]; omega
  have e2 : ((x.toNat : Int) / 2 ^ (8 - p - c)) = ((x.toNat / 2 ^ (8 - p - c) : Nat) : Int) := by simp
  have hd : x.toNat / 2 ^ (8 - p - c) < 256 := Nat.lt_of_le_of_lt (Nat.div_le_self _ _) hx
  have e3 : (v : Int) * 2 ^ c = ((v * 2 ^ c : Nat) : Int) := by simp
  have hm : x.toNat / 2 ^ (8 - p - c) % 2 ^ c < 2 ^ c := Nat.mod_lt _ (by omega)
  rw [e1, e2, u8_and_nat _ _ hd (by omega), Nat.and_two_pow_sub_one_eq_mod, e3, IntWalk.u64_in _ (by omega), IntWalk.u64_in _ (by omega), u64_or_nat _ _ (by omega) (by omega), nat_join c _ _ (by simp) hm]

set_option maxHeartbeats 1000000 in
theorem getSome_any (blk lo hi pos : Nat) (bs : List UInt8) (N : Nat) (h1n : 1 ≤ N) (h64 : N ≤ 64) (hmany : N ≤ 8 * bs.length - pos) (w : World) (hr : Rdr w blk lo hi bs pos false) :
    Calls Try.prog 33 #[.pointer (some ⟨blk, 0, none⟩), .int .i64 N] w fun e w' => e = .returned (.int .u64 (num (((bits8 bs).drop pos).take N) : Nat)) ∧ Rdr w' blk lo hi bs (pos + N) false ∧ Chg (fun k => k = blk) w w' := by
  have hlft := left_any blk lo hi pos bs false w hr
  simp only [Bool.false_eq_true, if_false] at hlft
  have hd1 : decide (8 * bs.length - pos < N) = false := by simp; omega
  have hd2 : decide ((N : Int) < 1) = false := by simp; omega
  have hd3 : decide (64 < (N : Int)) = false := by simp; omega
  go_enter Try.func33, Try.ntmps33
  go_wp2_with (first | (go_at_call 36; refine (bad_any _ _ _ _ _ _ _ hr).mono ?_; rintro e w' ⟨rfl, rfl⟩) | (go_at_call 37; refine hlft.mono ?_; rintro e w' ⟨rfl, nq, rfl⟩))
  go_loopg [1, 5] N (fun k s1 s5 wr => k ≤ N ∧ s1 = .int .i64 (k : Nat) ∧ s5 = .int .u64 (num (((bits8 bs).drop pos).take (N - k)) : Nat) ∧ Rdr wr blk lo hi bs (pos + (N - k)) false ∧ Chg (fun k => k = blk) w wr)
  case atStart => exact ⟨Nat.le_refl _, rfl, by simp [num], by simpa using hr.below (below_drewN nq), ⟨rfl, rfl, rfl, Nat.le_refl _, fun _ _ _ => rfl⟩⟩
  case round =>
    obtain ⟨hk, rfl, rfl, hrr, hch⟩ := hrel
    clear hr hlft
    by_cases h0 : gk = 0
    · subst h0
      have H1 := Lib.hid hrr
      have H2 := Lib.hid hch
      clear hrr hch
      go_wp2
      go_ret
      exact ⟨rfl, H1.out, H2.out⟩
    · obtain ⟨cp, hcp⟩ : ∃ cp, cp = pos + (N - gk) := ⟨_, rfl⟩
      rw [← hcp] at hrr
      obtain ⟨sv, c0, c1, c2, f1, f2, hrd, hb, h1, h2, h3, h4, h5⟩ := hrr
      have hq : cp / 8 < bs.length := by omega
      obtain ⟨b, off, cap, rfl, hcell⟩ := rdOne hrd (cp / 8) hq
      have hbl := bs[cp / 8].toNat_lt
      obtain ⟨bt, hbt⟩ : ∃ bt : UInt8, bt = bs[cp / 8] := ⟨_, rfl⟩
      rw [← hbt] at hcell hbl
      obtain ⟨vv, hvv⟩ : ∃ vv : Nat, vv = num (((bits8 bs).drop pos).take (N - gk)) := ⟨_, rfl⟩
      rw [← hvv]
      have hvlt : vv < 2 ^ 64 := by
        have := num_lt (((bits8 bs).drop pos).take (N - gk))
        have h2 : (2 : Nat) ^ (((bits8 bs).drop pos).take (N - gk)).length ≤ 2 ^ 64 := Nat.pow_le_pow_right (by omega) (by simp; omega)
        omega
      have HCP := Lib.hid hcp
      have HBT := Lib.hid hbt
      have HVV := Lib.hid hvv
      have HRD := Lib.hid hrd
      have HB := Lib.hid hb
      have HCH := Lib.hid hch
      clear hcp hbt hvv hrd hb hch
      go_upto_region 9 with fail
      go_cut [7] (fun s7 wx => wx = wr ∧ ∃ c : Nat, s7 = .int .i64 (c : Nat) ∧ 1 ≤ c ∧ c ≤ gk ∧ c + cp % 8 ≤ 8)
      case first =>
        go_wp2_with fail
        all_goals go_meet
        all_goals go_light
        · exact ⟨rfl, gk, rfl, by omega, by omega, by omega⟩
        · exact ⟨rfl, 8 - cp % 8, by congr 1; omega, by omega, by omega, by omega⟩
      case rest =>
        obtain ⟨rfl, c, rfl, hc1', hc2', hc3'⟩ := hcut
        go_upto_region 10 with fail
        go_quiet (fail)
        go_wp2
        go_roundg (gk - c)
        case measure => go_light; omega
        case rel =>
          go_light
          have e1 : N - (gk - c) = (N - gk) + c := by omega
          have e2 : ((bits8 bs).drop pos).take (N - (gk - c)) = ((bits8 bs).drop pos).take (N - gk) ++ bitsOf (bt.toNat / 2 ^ (8 - cp % 8 - c)) c := by
            rw [e1, List.take_add, List.drop_drop, ← HCP.out, HBT.out, bits8_piece bs cp c hq (by omega)]
          have e3 : num (((bits8 bs).drop pos).take (N - (gk - c))) = vv * 2 ^ c + bt.toNat / 2 ^ (8 - cp % 8 - c) % 2 ^ c := by
            rw [e2, num_append, num_bitsOf, length_bitsOf, ← HVV.out]
          have e4 : num (((bits8 bs).drop pos).take (N - (gk - c))) < 18446744073709551616 := by
            have := num_lt (((bits8 bs).drop pos).take (N - (gk - c)))
            have h2 : (2 : Nat) ^ (((bits8 bs).drop pos).take (N - (gk - c))).length ≤ 2 ^ 64 := Nat.pow_le_pow_right (by omega) (by simp; omega)
            omega
          rw [e3] at e4
          have e5 : pos + (N - (gk - c)) = cp + c := by have := HCP.out; omega
          have hc : Chg (fun k => k = blk) wc ((wc.drewN nq).setCell ⟨blk, 1, none⟩ (.int .i64 ((cp : Int) + (c : Int)))) := (show Chg (fun k => k = blk) wc (wc.drewN nq) from ⟨rfl, rfl, rfl, Nat.le_refl _, fun _ _ _ => rfl⟩).setCell (p := ⟨blk, 1, none⟩) (fun _ => rfl) _
          rw [e3, e5, get_byte bt vv (cp % 8) c (by omega) hc1' (by omega) e4]
          refine ⟨by omega, by congr 1; omega, rfl, ⟨_, ?_, ?_, ?_, ?_, ?_, RdV.chg HRD.out hc (fun k hk => (HB.out k hk).2.2), HB.out, h1, h2, by simpa using h3, by omega, h5⟩, HCH.out.trans hc⟩
          · simp [go_sem, c0]
          · simp [go_sem, c1]
          · simp [go_sem, c2]
          · simp [go_sem, f1]
          · simp [go_sem, f2]

end Go.Proofs.Ytmhmmnleijadnaa
