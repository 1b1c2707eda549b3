/- stamp.Decode. -/
import Derived.Test.YtcgjbjiififkhaaStDecPlain
import Derived.Test.YtcgjbjiififkhaaUn04
import Derived.Test.YtcgjbjiififkhaaLimits05
namespace Go.Proofs.Ytcgjbjiififkhaa
open Go.RowKit
set_option linter.unusedVariables false

/-- What Get gives, whatever the reader's state. -/
def gV (bs : List UInt8) (pos : Nat) (bad : Bool) (N : Nat) : Nat := if bad = true then 0 else if N ≤ 8 * bs.length - pos then num (((bits8 bs).drop pos).take N) else 0
def gP (bs : List UInt8) (pos : Nat) (bad : Bool) (N : Nat) : Nat := if bad = true then pos else if N ≤ 8 * bs.length - pos then pos + N else pos
def gB (bs : List UInt8) (pos : Nat) (bad : Bool) (N : Nat) : Bool := if bad = true then true else !decide (N ≤ 8 * bs.length - pos)

theorem get_all (blk lo hi pos : Nat) (bs : List UInt8) (bad : Bool) (N : Nat) (h1 : 1 ≤ N) (h64 : N ≤ 64) (w : World) (hr : Rdr w blk lo hi bs pos bad) :
    Calls Try.prog 25 #[.pointer (some ⟨blk, 0, none⟩), .int .i64 (N : Int)] w fun e w' => e = .returned (.int .u64 ((gV bs pos bad N : Nat) : Int)) ∧ Rdr w' blk lo hi bs (gP bs pos bad N) (gB bs pos bad N) ∧ Chg (fun k => k = blk) w w' := by
  cases bad with
  | true =>
    refine (getBad_any blk lo hi pos bs (N : Int) w hr).mono ?_
    rintro e w' ⟨rfl, rfl⟩
    exact ⟨rfl, hr, Chg.refl _ _⟩
  | false =>
    by_cases hN : N ≤ 8 * bs.length - pos
    · refine (getSome_any blk lo hi pos bs N h1 h64 hN w hr).mono ?_
      rintro e w' ⟨rfl, h2, h3⟩
      have e1 : gV bs pos false N = num (((bits8 bs).drop pos).take N) := by simp [gV, hN]
      have e2 : gP bs pos false N = pos + N := by simp [gP, hN]
      have e3 : gB bs pos false N = false := by simp [gB, hN]
      rw [e1, e2, e3]
      exact ⟨rfl, h2, h3⟩
    · refine (getFew_any blk lo hi pos bs (N : Int) (by omega) (by omega) (by omega) w hr).mono ?_
      rintro e w' ⟨rfl, h2, h3⟩
      have e1 : gV bs pos false N = 0 := by simp [gV, hN]
      have e2 : gP bs pos false N = pos := by simp [gP, hN]
      have e3 : gB bs pos false N = true := by simp [gB, hN]
      rw [e1, e2, e3]
      exact ⟨rfl, h2, h3⟩

theorem gB_few {bs : List UInt8} (h : bs.length < 11) : gB bs (gP bs (gP bs 0 false 8) (gB bs 0 false 8) 16) (gB bs (gP bs 0 false 8) (gB bs 0 false 8) 16) 64 = true := by
  by_cases h1 : 8 ≤ 8 * bs.length - 0
  · have e1 : gB bs 0 false 8 = false := by simp [gB]; omega
    have e2 : gP bs 0 false 8 = 8 := by simp [gP]; omega
    rw [e1, e2]
    by_cases h2 : 16 ≤ 8 * bs.length - 8
    · have e3 : gB bs 8 false 16 = false := by simp [gB]; omega
      have e4 : gP bs 8 false 16 = 24 := by simp [gP]; omega
      rw [e3, e4]
      simp [gB]; omega
    · have e3 : gB bs 8 false 16 = true := by simp [gB]; omega
      rw [e3]; rfl
  · have e1 : gB bs 0 false 8 = true := by simp [gB]; omega
    rw [e1]; rfl
theorem gV_lt (bs : List UInt8) (pos : Nat) (bad : Bool) (N : Nat) (h : N ≤ 64) : gV bs pos bad N < 18446744073709551616 := by
  unfold gV
  split
  · decide
  · split
    · refine Nat.lt_of_lt_of_le (num_lt _) (Nat.le_trans (Nat.pow_le_pow_right (by omega) (show _ ≤ 64 by simp; omega)) (Nat.le_refl _))
    · decide
theorem g_head {bs : List UInt8} (h : 11 ≤ bs.length) : num (((bits8 bs).drop 0).take 8) = mB bs ∧ num (((bits8 bs).drop (0 + 8)).take 16) = nB bs ∧ num (((bits8 bs).drop (0 + 8 + 16)).take 64) = tB bs := by
  refine ⟨?_, ?_, ?_⟩
  · rw [List.drop_zero]; exact congrArg num (bits8_take 1 bs)
  · have e := bits8_drop 1 bs
    rw [show 0 + 8 = 8 * 1 by rfl, e]; exact congrArg num (bits8_take 2 _)
  · have e := bits8_drop 3 bs
    rw [show 0 + 8 + 16 = 8 * 3 by rfl, e]; exact congrArg num (bits8_take 8 _)

/-- What a Decode ends with. -/
def DecEnd (bs : List UInt8) (w : World) (e : Ending) (w' : World) : Prop :=
  Below w.heap.size w w' ∧ ((decS bs = none ∧ e = .returned (.tuple #[.slice none 0 0, .int .i64 2])) ∨ ∃ t ao cap, decS bs = some t ∧ e = .returned (.tuple #[.slice ao t.length cap, .int .i64 0]) ∧ Tms w' (.slice ao t.length cap) t)

theorem nB_lt (bs : List UInt8) : nB bs < 65536 := rdN_lt 2 _
theorem tB_lt (bs : List UInt8) : tB bs < 18446744073709551616 := rdN_lt 8 _
theorem mB_lt (bs : List UInt8) : mB bs < 256 := rdN_lt 1 _

theorem g_step {bs : List UInt8} (h11 : 11 ≤ bs.length) {P k : Nat} {Bd : Bool} (h : (Bd = false ∧ P = 88 + 64 * k) ∨ (Bd = true ∧ (xB bs).length < 8 * k)) :
    gV bs P Bd 64 = wd (xB bs) k ∧ ((gB bs P Bd 64 = false ∧ gP bs P Bd 64 = 88 + 64 * (k + 1)) ∨ (gB bs P Bd 64 = true ∧ (xB bs).length < 8 * (k + 1))) := by
  have hx : (xB bs).length = bs.length - 11 := by unfold xB; simp
  rcases h with ⟨rfl, rfl⟩ | ⟨rfl, h⟩
  · by_cases hN : 64 ≤ 8 * bs.length - (88 + 64 * k)
    · refine ⟨?_, .inl ⟨by simp [gB]; omega, by simp [gP, hN]; omega⟩⟩
      unfold gV wd
      rw [if_neg (by simp), if_pos hN, if_pos (by omega)]
      have e := bits8_drop (11 + 8 * k) bs
      rw [show 88 + 64 * k = 8 * (11 + 8 * k) by omega, e]
      unfold xB
      rw [List.drop_drop]
      exact congrArg num (bits8_take 8 _)
    · refine ⟨?_, .inr ⟨by simp [gB]; omega, by omega⟩⟩
      unfold gV wd
      rw [if_neg (by simp), if_neg hN, if_neg (by omega)]
  · refine ⟨?_, .inr ⟨by simp [gB], by omega⟩⟩
    unfold gV wd
    rw [if_pos rfl, if_neg (by omega)]

theorem OwnT.next {w w2 : World} {hi L cap6 : Nat} {v : Value} {ao6 : Option Addr} {f : Nat → Nat} {c : Int} (hc : c = sI (f L)) (h : Grew w w2 hi 2 1 v (.slice ao6 (L + 1) cap6) (L + 1) ((lst f L).map tV ++ [tV c])) : OwnT w2 hi (.slice ao6 (L + 1) cap6) (lst f (L + 1)) := by
  unfold OwnT
  rw [lst_len, lst_next, List.map_append, List.map_cons, List.map_nil, ← hc]
  exact h.owns
theorem xB_len (bs : List UInt8) : (xB bs).length = bs.length - 11 := by unfold xB; simp
theorem rd_tail {w : World} {ao' : Option Addr} {cap' : Nat} {bs : List UInt8} (h : RdV w 1 (.slice ao' (bs.length - 11) cap') (bs.length - 11) (List.take (bs.length - 11) (List.drop 11 (bs.map bV)))) : Rd w (.slice ao' (xB bs).length cap') (xB bs) := by
  unfold Rd
  have e2 : List.take (bs.length - 11) (List.drop 11 (bs.map bV)) = (xB bs).map bV := by rw [List.take_of_length_le (by simp), xB, List.map_drop]
  rw [e2] at h
  rw [xB_len]
  exact h
theorem lst_one (f : Nat → Nat) : lst f (0 + 1) = [sI (f 0 : Int)] := rfl
theorem uT_addr (a b : Int) : uT (a + (uT b : Int)) = uT (a + b) := by
  have := uT_cast b
  unfold uT at *; omega
theorem unA_lt {bs : List UInt8} {n : Int} {l : List Nat} (h : unA bs n = some l) : ∀ x ∈ l, x < 18446744073709551616 := by
  unfold unA at h
  split at h
  · split at h
    · cases h
    · split at h
      · rename_i hp
        simp only [Option.some.injEq] at h
        subst h
        intro x hx
        by_cases h60 : x < 2 ^ 60
        · omega
        · have := pkA_big _ _ (Nat.le_refl _) x hx h60
          rw [this] at hp
          cases hp.1
      · cases h
  · cases h
theorem OwnT.row {w : World} {hi L : Nat} {v : Value} {f : Nat → Nat} (h : OwnT w hi v (lst f L)) : w.ownsRow hi 2 1 v L ((lst f L).map tV) := by
  unfold OwnT at h
  rwa [lst_len] at h

set_option maxHeartbeats 2000000 in
set_option maxRecDepth 100000 in
theorem decode_any (bs : List UInt8) (v : Value) (w : World) (hl : bs.length ≤ 140737488355328) (hr : Rd w v bs) :
    Calls Try.prog 12 #[v] w fun e w' => DecEnd bs w e w' := by
  obtain ⟨ao0, cap0, rfl, hnc, hcm⟩ := RdV.shape hr
  unfold maxLen at hcm
  have HR := Lib.hid hr
  have HL := Lib.hid hl
  have hNR := newReader_any _ bs w hl hr
  by_cases hlen : bs.length < 11
  · have HU := Lib.hid (dec_candS_none (show candS bs = none by unfold candS; rw [if_pos (.inl hlen)]))
    have HGB := gB_few hlen
    have hv2 := gV_lt bs (gP bs 0 false 8) (gB bs 0 false 8) 16 (by decide)
    have hG1 := fun (blk lo hi : Nat) (w : World) (h : Rdr w blk lo hi bs 0 false) => get_all blk lo hi 0 bs false 8 (by decide) (by decide) w h
    have hG2 := fun (blk lo hi : Nat) (w : World) (h : Rdr w blk lo hi bs (gP bs 0 false 8) (gB bs 0 false 8)) => get_all blk lo hi (gP bs 0 false 8) bs (gB bs 0 false 8) 16 (by decide) (by decide) w h
    have hG3 := fun (blk lo hi : Nat) (w : World) (h : Rdr w blk lo hi bs (gP bs (gP bs 0 false 8) (gB bs 0 false 8) 16) (gB bs (gP bs 0 false 8) (gB bs 0 false 8) 16)) => get_all blk lo hi _ bs _ 64 (by decide) (by decide) w h
    generalize gV bs 0 false 8 = V1 at *
    generalize gP bs 0 false 8 = P1 at *
    generalize gB bs 0 false 8 = B1 at *
    generalize gV bs P1 B1 16 = V2 at *
    generalize gP bs P1 B1 16 = P2 at *
    generalize gB bs P1 B1 16 = B2 at *
    generalize gV bs P2 B2 64 = V3 at *
    generalize gP bs P2 B2 64 = P3 at *
    generalize gB bs P2 B2 64 = B3 at *
    subst HGB
    clear hr hcm
    go_enter Try.func12, Try.ntmps12
    go_wp2_with (first
      | (go_at_call 24; refine hNR.mono ?_; rintro _ w2 ⟨blk, rfl, hrd, hbl⟩; have HB := Lib.hid hbl; have HRD := Lib.hid hrd; have hbk : Hid (w.heap.size ≤ blk) := Lib.hid (by obtain ⟨_, _, _, _, _, _, _, _, h, _⟩ := hrd; exact h); clear hbl hrd hNR)
      | (go_at_call 25; refine (hG1 _ _ _ _ HRD.out).mono ?_; rintro _ w3 ⟨rfl, hr3, hc3⟩; have HR3 := Lib.hid hr3; have HB3 := Lib.hid (HB.out.trans (hc3.below HB.out.size (fun k hk => by subst hk; exact hbk.out))); clear hG1 hr3 hc3 HRD)
      | (go_at_call 25; refine (hG2 _ _ _ _ HR3.out).mono ?_; rintro _ w4 ⟨rfl, hr4, hc4⟩; have HR4 := Lib.hid hr4; have HB4 := Lib.hid (HB3.out.trans (hc4.below HB3.out.size (fun k hk => by subst hk; exact hbk.out))); clear hG2 hr4 hc4 HR3)
      | (go_at_call 25; refine (hG3 _ _ _ _ HR4.out).mono ?_; rintro _ w5 ⟨rfl, hr5, hc5⟩; have HR5 := Lib.hid hr5; have HB5 := Lib.hid (HB4.out.trans (hc5.below HB4.out.size (fun k hk => by subst hk; exact hbk.out))); clear hG3 hr5 hc5 HR4)
      | (go_at_call 26; refine (bad_any _ _ _ _ _ _ _ HR5.out).mono ?_; rintro _ _ ⟨rfl, rfl⟩))
    go_ret2
    exact ⟨HB5.out, .inl ⟨HU.out, by go_light; rfl⟩⟩
  · have h11 : 11 ≤ bs.length := by omega
    obtain ⟨g1, g2, g3⟩ := g_head h11
    have hG1 := fun (blk lo hi : Nat) (w : World) (h : Rdr w blk lo hi bs 0 false) => getSome_any blk lo hi 0 bs 8 (by decide) (by decide) (by omega) w h
    have hG2 := fun (blk lo hi : Nat) (w : World) (h : Rdr w blk lo hi bs (0 + 8) false) => getSome_any blk lo hi (0 + 8) bs 16 (by decide) (by decide) (by omega) w h
    have hG3 := fun (blk lo hi : Nat) (w : World) (h : Rdr w blk lo hi bs (0 + 8 + 16) false) => getSome_any blk lo hi (0 + 8 + 16) bs 64 (by decide) (by decide) (by omega) w h
    rw [g1] at hG1
    rw [g2] at hG2
    rw [g3] at hG3
    have hN := nB_lt bs
    have hT := tB_lt bs
    have HC := Lib.hid (show candS bs = if bs.length < 11 ∨ nB bs < 1 ∨ 1000 < nB bs then none
      else if mB bs = 0 then some (lst (seq0 (tB bs) (xB bs)) (nB bs))
      else if mB bs = 1 then some (lst (seq1 (tB bs) (wd (xB bs) 0)) (nB bs))
      else if mB bs = 2 then match unA (xB bs) ((nB bs - 1 : Nat) : Int) with
        | none => none
        | some l => some (lst (seq2 (tB bs) l) (l.length + 1))
      else some (lst (fun _ => tB bs) 1) from rfl)
    clear g1 g2 g3
    have H11 := Lib.hid h11
    generalize mB bs = M at *
    generalize nB bs = N at *
    generalize tB bs = T at *
    have HT := Lib.hid hT
    clear hr hcm hT
    go_enter Try.func12, Try.ntmps12
    go_upto_region 3 with (first
      | (go_at_call 24; refine hNR.mono ?_; rintro _ w2 ⟨blk, rfl, hrd, hbl⟩; have HB := Lib.hid hbl; have HRD := Lib.hid hrd; have hbk : Hid (w.heap.size ≤ blk) := Lib.hid (by obtain ⟨_, _, _, _, _, _, _, _, h, _⟩ := hrd; exact h); have hbh : Hid (blk < w2.heap.size) := Lib.hid (by obtain ⟨_, _, _, _, _, _, _, _, _, h, _⟩ := hrd; exact h); clear hbl hrd hNR)
      | (go_at_call 25; refine (hG1 _ _ _ _ HRD.out).mono ?_; rintro _ w3 ⟨rfl, hr3, hc3⟩; have HR3 := Lib.hid hr3; have HB3 := Lib.hid (HB.out.trans (hc3.below HB.out.size (fun k hk => by subst hk; exact hbk.out))); have hs3 : Hid (w2.heap.size ≤ w3.heap.size) := Lib.hid hc3.size; clear hG1 hr3 hc3 HRD)
      | (go_at_call 25; refine (hG2 _ _ _ _ HR3.out).mono ?_; rintro _ w4 ⟨rfl, hr4, hc4⟩; have HR4 := Lib.hid hr4; have HB4 := Lib.hid (HB3.out.trans (hc4.below HB3.out.size (fun k hk => by subst hk; exact hbk.out))); have hs4 : Hid (w2.heap.size ≤ w4.heap.size) := Lib.hid (Nat.le_trans hs3.out hc4.size); clear hG2 hr4 hc4 HR3)
      | (go_at_call 25; refine (hG3 _ _ _ _ HR4.out).mono ?_; rintro _ w5 ⟨rfl, hr5, hc5⟩; have HR5 := Lib.hid hr5; have HB5 := Lib.hid (HB4.out.trans (hc5.below HB4.out.size (fun k hk => by subst hk; exact hbk.out))); have hs5 : Hid (w2.heap.size ≤ w5.heap.size) := Lib.hid (Nat.le_trans hs4.out hc5.size); clear hG3 hr5 hc5 HR4))
    generalize w2.heap.size = hi at *
    clear HB HB3 HB4 hs3 hs4
    by_cases hNN : N < 1 ∨ 1000 < N
    · have HU := Lib.hid (dec_candS_none (show candS bs = none by rw [HC.out, if_pos (.inr hNN)]))
      rcases hNN with h | h
      · have hI : (N : Int) < 1 := by omega
        go_wp2_with (go_at_call 26; refine (bad_any _ _ _ _ _ _ _ HR5.out).mono ?_; rintro _ _ ⟨rfl, rfl⟩)
        go_ret2
        exact ⟨HB5.out, .inl ⟨HU.out, by go_light; rfl⟩⟩
      · have hI : ¬ (N : Int) < 1 := by omega
        have hI2 : (1000 : Int) < (N : Int) := by omega
        go_wp2_with (go_at_call 26; refine (bad_any _ _ _ _ _ _ _ HR5.out).mono ?_; rintro _ _ ⟨rfl, rfl⟩)
        go_ret2
        exact ⟨HB5.out, .inl ⟨HU.out, by go_light; rfl⟩⟩
    · have hC := HC.out
      rw [if_neg (by omega)] at hC
      obtain ⟨n1, rfl⟩ : ∃ n1, N = n1 + 1 := ⟨N - 1, by omega⟩
      have hn1 : n1 ≤ 999 := by omega
      have hI : ¬ ((n1 + 1 : Nat) : Int) < 1 := by omega
      have hI2 : ¬ (1000 : Int) < ((n1 + 1 : Nat) : Int) := by omega
      have hsT := i64_wrap (T : Int)
      rw [show n1 + 1 - 1 = n1 by omega] at hC
      have HC2 := Lib.hid hC
      clear hC HC hN hNN hlen
      have hOL : Hid (OwnT (w5.alloc (.cells #[.int .i64 (sI (T : Int))] 2)) hi (.slice (some ⟨w5.heap.size, 0, none⟩) (0 + 1) 1) [sI (T : Int)]) := Lib.hid (World.ownsRow_lit w5 #[.int .i64 (sI (T : Int))] 1 hs5.out (by decide) rfl)
      have HB6 := Lib.hid (HB5.out.alloc HB5.out.size (.cells #[.int .i64 (sI (T : Int))] 2))
      have HR6 := Lib.hid (HR5.out.below ((Below.refl _ _).alloc (Nat.le_refl _) (.cells #[.int .i64 (sI (T : Int))] 2)))
      have HS6 : Hid (hi ≤ (w5.alloc (.cells #[.int .i64 (sI (T : Int))] 2)).heap.size) := Lib.hid (by have := hs5.out; simp; omega)
      by_cases hM0 : M = 0
      · subst hM0
        have HCD : Hid (candS bs = some (lst (seq0 T (xB bs)) (n1 + 1))) := Lib.hid (by rw [HC2.out, if_pos rfl])
        go_wp2_with (go_at_call 26; refine (bad_any _ _ _ _ _ _ _ HR5.out).mono ?_; rintro _ _ ⟨rfl, rfl⟩)
        clear HR5 HB5 hs5
        generalize w5.alloc (.cells #[.int .i64 (sI (T : Int))] 2) = w6 at *
        go_loopg [8, 44] n1 (fun m s8 s44 wr => ∃ (k : Nat) (ao : Option Addr) (cap P : Nat) (Bd : Bool), k + m = n1 ∧ s44 = .int .i64 (k : Int) ∧ s8 = .slice ao (k + 1) cap ∧ Hid (OwnT wr hi (.slice ao (k + 1) cap) (lst (seq0 T (xB bs)) (k + 1))) ∧ Hid (Below w.heap.size w wr) ∧ Hid (hi ≤ wr.heap.size) ∧ Hid (Rdr wr blk w.heap.size hi bs P Bd) ∧ Hid ((Bd = false ∧ P = 88 + 64 * k) ∨ (Bd = true ∧ (xB bs).length < 8 * k)))
        case atStart => exact ⟨0, some ⟨w5.heap.size, 0, none⟩, 1, 88, false, by omega, rfl, rfl, Lib.hid (by rw [lst_one]; exact hOL.out), HB6, HS6, HR6, Lib.hid (.inl ⟨rfl, rfl⟩)⟩
        case round =>
          clear hOL HB6 HS6 HR6
          obtain ⟨k, ao, cap, P, Bd, hk, rfl, rfl, HOt, HBx, HSz, HRd, HI⟩ := hrel
          by_cases h0 : gk = 0
          · obtain rfl : k = n1 := by omega
            have hE := encode_any (lst (seq0 T (xB bs)) (k + 1)) _ wr (candS_ok HCD.out) HOt.out.tms
            cases hes : encS (lst (seq0 T (xB bs)) (k + 1)) with
            | none =>
              have HU := Lib.hid (dec_candS HCD.out (by rw [hes]; simp))
              go_upto_region 32 with (go_at_call 10; refine hE.mono ?_; rintro e w6 ⟨hb6, h⟩; rw [hes] at h; rcases h with ⟨_, rfl⟩ | ⟨_, _, _, h, _⟩; have HB6 := Lib.hid (HBx.out.trans (hb6.mono HBx.out.size)); clear hb6 hE; rotate_left 1; cases h)
              go_wp2_with fail
              go_ret2
              exact ⟨HB6.out, .inl ⟨HU.out, by go_light; rfl⟩⟩
            | some c =>
              have HES := Lib.hid hes
              go_upto_region 32 with (go_at_call 10; refine hE.mono ?_; rintro e w6 ⟨hb6, h⟩; rw [HES.out] at h; rcases h with ⟨h, _⟩ | ⟨c2, co, cc, h, _, _, rfl, ho6⟩; cases h; obtain rfl : c = c2 := (by simpa using h); have HB6 := Lib.hid (HBx.out.trans (hb6.mono HBx.out.size)); have hEQ := bytesEqual_any bs c _ _ w6 (RdV.below HR.out HB6.out) ho6.rd; have HT6 := Lib.hid (show Tms w6 (.slice ao ((k + 1)) cap) (lst (seq0 T (xB bs)) (k + 1)) from RdV.below HOt.out.tms hb6); clear hb6 hE ho6 h)
              clear hes
              by_cases hcb : bs = c
              · subst hcb
                have HU := Lib.hid (show decS bs = some (lst (seq0 T (xB bs)) (k + 1)) by unfold decS; rw [HCD.out]; simp only; rw [if_pos HES.out])
                have hbb : (bs == bs) = true := by simp
                rw [hbb] at hEQ
                go_wp2_with (go_at_call 29; refine hEQ.mono ?_; rintro _ _ ⟨rfl, rfl⟩)
                go_ret2
                exact ⟨HB6.out, .inr ⟨lst (seq0 T (xB bs)) (k + 1), ao, cap, HU.out, by rw [lst_len]; go_light; rfl, by rw [lst_len]; exact HT6.out⟩⟩
              · have HU := Lib.hid (dec_candS HCD.out (by rw [HES.out]; intro h; exact hcb (by simpa using h.symm)))
                have hbb : (bs == c) = false := by simpa using hcb
                rw [hbb] at hEQ
                go_wp2_with (go_at_call 29; refine hEQ.mono ?_; rintro _ _ ⟨rfl, rfl⟩)
                go_ret2
                exact ⟨HB6.out, .inl ⟨HU.out, by go_light; rfl⟩⟩
          · have hkn : k < n1 := by omega
            obtain ⟨e1, e2⟩ := g_step H11.out HI.out
            have hG := get_all blk w.heap.size hi P bs Bd 64 (by decide) (by decide) wr HRd.out
            rw [e1] at hG
            have HI2 := Lib.hid e2
            have hw := wd_lt (xB bs) k
            have hsw := i64_wrap ((wd (xB bs) k : Nat) : Int)
            have hcell : Hid (sI ((wd (xB bs) k : Nat) : Int) = sI ((seq0 T (xB bs) (k + 1) : Nat) : Int)) := Lib.hid rfl
            have h63 : Hid (k + 1 + 1 ≤ maxLen) := Lib.hid (by unfold maxLen; omega)
            have hby : Hid ((k + 1 + 1) * 8 ≤ 140737488355328) := Lib.hid (by omega)
            clear e1 e2
            generalize gP bs P Bd 64 = P2 at *
            generalize gB bs P Bd 64 = B2 at *
            generalize wd (xB bs) k = V at *
            generalize sI (V : Int) = sV at *
            go_wp2_with (first
              | (go_at_call 25; refine hG.mono ?_; rintro _ w7 ⟨rfl, hr7, hc7⟩; have HR7 := Lib.hid hr7; have HB7 := Lib.hid (HBx.out.trans (hc7.below HBx.out.size (fun j hj => by subst hj; exact hbk.out))); have hO1 := Lib.hid (hc7.owns HOt.out.row (fun j hj e => by have h8 := (World.ownsRow.lt HOt.out.row j hj).1; have h9 := hbh.out; omega)); have HS7 : Hid (hi ≤ w7.heap.size) := Lib.hid (Nat.le_trans HSz.out hc7.size); have hba : Hid (∀ o, hi ≤ (w7.alloc o).heap.size) := Lib.hid (fun o => by have h6 := HS7.out; have e2 : (w7.alloc o).heap.size = w7.heap.size + 1 := (by simp); omega); clear hG hr7 hc7 HRd HOt HBx HSz)
              | (at_builtin; refine wpList_append_rd _ rfl (.tmp 46) (.tmp 50) 22 rfl hi 2 (.int .i64 0) 1 8 Try.underlying22 infoI64 rfl (by decide) (.slice ao (k + 1) cap) (k + 1) ((lst (seq0 T (xB bs)) (k + 1)).map tV) rfl (World.ownsRow.alloc hO1.out _) (.slice (some ⟨_, 0, none⟩) 1 1) 1 [tV sV] rfl (RdV.one _ _ 2) (one_one _ rfl) h63.out hby.out (hba.out _) ?_; intro ao6 cap6 w6 hg6; have HG := Lib.hid hg6.ofAlloc; clear hg6))
            go_roundg (gk - 1)
            case measure => go_light; omega
            case rel =>
              go_light
              exact ⟨k + 1, ao6, cap6, P2, B2, by omega, by go_num, rfl, Lib.hid (OwnT.next hcell.out HG.out), Lib.hid (HB7.out.trans (HG.out.below HB7.out.size (fun j hj => by have h8 := (World.ownsRow.lt hO1.out j hj).1; have h9 := hbk.out; have h10 := hbh.out; omega))), Lib.hid (Nat.le_trans HS7.out HG.out.grown.size), Lib.hid (HR7.out.keep HG.out.chg (fun j _ hj2 e => by have := (World.ownsRow.lt hO1.out j e).1; omega)), HI2⟩
      · by_cases hM1 : M = 1
        · subst hM1
          have HCD : Hid (candS bs = some (lst (seq1 T (wd (xB bs) 0)) (n1 + 1))) := Lib.hid (by rw [HC2.out, if_neg (by decide), if_pos rfl])
          obtain ⟨e1, _⟩ := g_step H11.out (bs := bs) (P := 88) (k := 0) (Bd := false) (.inl ⟨rfl, rfl⟩)
          have hG := fun (wx : World) (h : Rdr wx blk w.heap.size hi bs 88 false) => get_all blk w.heap.size hi 88 bs false 64 (by decide) (by decide) wx h
          rw [e1] at hG
          have hD := wd_lt (xB bs) 0
          clear e1
          generalize wd (xB bs) 0 = D at *
          go_upto_region 13 with (go_at_call 26; refine (bad_any _ _ _ _ _ _ _ HR5.out).mono ?_; rintro _ _ ⟨rfl, rfl⟩)
          clear HR5 HB5 hs5
          generalize w5.alloc (.cells #[.int .i64 (sI (T : Int))] 2) = w6 at *
          go_wp2_with (go_at_call 25; refine (hG _ HR6.out).mono ?_; rintro _ w7 ⟨rfl, hr7, hc7⟩; have HB7 := Lib.hid (HB6.out.trans (hc7.below HB6.out.size (fun j hj => by subst hj; exact hbk.out))); have HO7 := Lib.hid (show OwnT w7 hi _ [sI (T : Int)] from hc7.owns hOL.out (fun j hj e => by have h8 := (World.ownsRow.lt hOL.out j hj).1; have h9 := hbh.out; omega)); have HS7 : Hid (hi ≤ w7.heap.size) := Lib.hid (Nat.le_trans HS6.out hc7.size); clear hG hr7 hc7 HR6 hOL HB6 HS6)
          go_loopg [7, 8, 59] n1 (fun m s7 s8 s59 wr => ∃ (k : Nat) (ao : Option Addr) (cap : Nat), k + m = n1 ∧ s59 = .int .i64 (k : Int) ∧ s7 = .int .u64 ((seq1 T D k : Nat) : Int) ∧ s8 = .slice ao (k + 1) cap ∧ Hid (OwnT wr hi (.slice ao (k + 1) cap) (lst (seq1 T D) (k + 1))) ∧ Hid (Below w.heap.size w wr) ∧ Hid (hi ≤ wr.heap.size))
          case atStart => exact ⟨0, some ⟨w5.heap.size, 0, none⟩, 1, by omega, rfl, rfl, rfl, Lib.hid (by rw [lst_one]; exact HO7.out), HB7, HS7⟩
          case round =>
            clear HO7 HB7 HS7
            obtain ⟨k, ao, cap, hk, rfl, rfl, rfl, HOt, HBx, HSz⟩ := hrel
            by_cases h0 : gk = 0
            · obtain rfl : k = n1 := by omega
              have hE := encode_any (lst (seq1 T D) (k + 1)) _ wr (candS_ok HCD.out) HOt.out.tms
              cases hes : encS (lst (seq1 T D) (k + 1)) with
              | none =>
                have HU := Lib.hid (dec_candS HCD.out (by rw [hes]; simp))
                go_upto_region 32 with (go_at_call 10; refine hE.mono ?_; rintro e w6 ⟨hb6, h⟩; rw [hes] at h; rcases h with ⟨_, rfl⟩ | ⟨_, _, _, h, _⟩; have HB6 := Lib.hid (HBx.out.trans (hb6.mono HBx.out.size)); clear hb6 hE; rotate_left 1; cases h)
                go_wp2_with fail
                go_ret2
                exact ⟨HB6.out, .inl ⟨HU.out, by go_light; rfl⟩⟩
              | some c =>
                have HES := Lib.hid hes
                go_upto_region 32 with (go_at_call 10; refine hE.mono ?_; rintro e w6 ⟨hb6, h⟩; rw [HES.out] at h; rcases h with ⟨h, _⟩ | ⟨c2, co, cc, h, _, _, rfl, ho6⟩; cases h; obtain rfl : c = c2 := (by simpa using h); have HB6 := Lib.hid (HBx.out.trans (hb6.mono HBx.out.size)); have hEQ := bytesEqual_any bs c _ _ w6 (RdV.below HR.out HB6.out) ho6.rd; have HT6 := Lib.hid (show Tms w6 (.slice ao ((k + 1)) cap) (lst (seq1 T D) (k + 1)) from RdV.below HOt.out.tms hb6); clear hb6 hE ho6 h)
                clear hes
                by_cases hcb : bs = c
                · subst hcb
                  have HU := Lib.hid (show decS bs = some (lst (seq1 T D) (k + 1)) by unfold decS; rw [HCD.out]; simp only; rw [if_pos HES.out])
                  have hbb : (bs == bs) = true := by simp
                  rw [hbb] at hEQ
                  go_wp2_with (go_at_call 29; refine hEQ.mono ?_; rintro _ _ ⟨rfl, rfl⟩)
                  go_ret2
                  exact ⟨HB6.out, .inr ⟨lst (seq1 T D) (k + 1), ao, cap, HU.out, by rw [lst_len]; go_light; rfl, by rw [lst_len]; exact HT6.out⟩⟩
                · have HU := Lib.hid (dec_candS HCD.out (by rw [HES.out]; intro h; exact hcb (by simpa using h.symm)))
                  have hbb : (bs == c) = false := by simpa using hcb
                  rw [hbb] at hEQ
                  go_wp2_with (go_at_call 29; refine hEQ.mono ?_; rintro _ _ ⟨rfl, rfl⟩)
                  go_ret2
                  exact ⟨HB6.out, .inl ⟨HU.out, by go_light; rfl⟩⟩
            · have hkn : k < n1 := by omega
              have hadd : IntKind.u64.wrap (((seq1 T D k : Nat) : Int) + (D : Int)) = ((seq1 T D (k + 1) : Nat) : Int) := u64_wrap _
              have hsw := i64_wrap ((seq1 T D (k + 1) : Nat) : Int)
              have hcell : Hid (sI ((seq1 T D (k + 1) : Nat) : Int) = sI ((seq1 T D (k + 1) : Nat) : Int)) := Lib.hid rfl
              have h63 : Hid (k + 1 + 1 ≤ maxLen) := Lib.hid (by unfold maxLen; omega)
              have hby : Hid ((k + 1 + 1) * 8 ≤ 140737488355328) := Lib.hid (by omega)
              have hO1 := Lib.hid HOt.out.row
              have hba : Hid (∀ o, hi ≤ (wr.alloc o).heap.size) := Lib.hid (fun o => by have h6 := HSz.out; have e2 : (wr.alloc o).heap.size = wr.heap.size + 1 := (by simp); omega)
              obtain ⟨V, hV⟩ : ∃ V, V = seq1 T D (k + 1) := ⟨_, rfl⟩
              rw [← hV] at hadd hsw
              have HV := Lib.hid hV
              obtain ⟨sV, hsV⟩ : ∃ sV, sV = sI (V : Int) := ⟨_, rfl⟩
              rw [← hsV] at hsw
              have hcell2 : Hid (sV = sI ((seq1 T D (k + 1) : Nat) : Int)) := Lib.hid (by rw [hsV, hV])
              clear hcell hV hsV
              generalize seq1 T D k = U at *
              go_wp2_with (at_builtin; refine wpList_append_rd _ rfl (.tmp 64) (.tmp 67) 22 rfl hi 2 (.int .i64 0) 1 8 Try.underlying22 infoI64 rfl (by decide) (.slice ao (k + 1) cap) (k + 1) ((lst (seq1 T D) (k + 1)).map tV) rfl (World.ownsRow.alloc hO1.out _) (.slice (some ⟨_, 0, none⟩) 1 1) 1 [tV sV] rfl (RdV.one _ _ 2) (one_one _ rfl) h63.out hby.out (hba.out _) ?_; intro ao6 cap6 w6 hg6; have HG := Lib.hid hg6.ofAlloc; clear hg6)
              go_roundg (gk - 1)
              case measure => go_light; omega
              case rel =>
                go_light
                exact ⟨k + 1, ao6, cap6, by omega, by go_num, by rw [HV.out], rfl, Lib.hid (OwnT.next hcell2.out HG.out), Lib.hid (HBx.out.trans (HG.out.below HBx.out.size (fun j hj => by have h8 := (World.ownsRow.lt hO1.out j hj).1; have h9 := hbk.out; have h10 := hbh.out; omega))), Lib.hid (Nat.le_trans HSz.out HG.out.grown.size)⟩
        · by_cases hM2 : M = 2
          · subst hM2
            have hrr : RdV w 1 (.slice ao0 bs.length cap0) bs.length (bs.map bV) := HR.out.v
            have hw56 : Hid (w5.heap.size < (w5.alloc (.cells #[.int .i64 (sI (T : Int))] 2)).heap.size) := Lib.hid (by simp)
            go_upto_region 20 with (go_at_call 26; refine (bad_any _ _ _ _ _ _ _ HR5.out).mono ?_; rintro _ _ ⟨rfl, rfl⟩)
            clear HR5 HB5 hs5
            generalize w5.alloc (.cells #[.int .i64 (sI (T : Int))] 2) = w6 at *
            go_wp2_with (with_reducible refine wpList_slice_at w w6 rfl (.tmp 73) (some (.const (.int .i64 11))) none 24 rfl 5 1 (.int .u8 0) 1 Try.underlying24 infoU8 _ _ _ _ rfl hrr 11 bs.length ?hb h11 (Nat.le_refl _) ?hk)
            case hb => exact bounds_lo _ _ .i64 11 h11
            case hk =>
            intro ao5 cap5 hr5 _
            have hr6 := rd_tail hr5
            have hx := xB_len bs
            have hUn := unpack_any (xB bs) (n1 : Int) (by omega) (by omega) _ w6 (by omega) ⟨n1, by omega, .inl (Int.le_refl _)⟩ (RdV.below hr6.v HB6.out)
            rw [← hx] at hr5 ⊢
            clear hr5 hr6 hx hrr
            cases hua : unA (xB bs) (n1 : Int) with
            | none =>
              have HU := Lib.hid (dec_candS_none (show candS bs = none by rw [HC2.out, if_neg (by decide), if_neg (by decide), if_pos trivial, hua]))
              go_upto_region 21 with (go_at_call 27; refine hUn.mono ?_; rintro e w7 ⟨hb7, h⟩; rcases h with ⟨_, rfl⟩ | ⟨_, _, _, h, _⟩; have HB7 := Lib.hid (HB6.out.trans (hb7.mono HB6.out.size)); clear hb7 hUn; rotate_left 1; (rw [hua] at h; cases h))
              go_wp2_with fail
              go_ret2
              exact ⟨HB7.out, .inl ⟨HU.out, by go_light; rfl⟩⟩
            | some l =>
              have HUA := Lib.hid hua
              have HCD : Hid (candS bs = some (lst (seq2 T l) (l.length + 1))) := Lib.hid (by rw [HC2.out, if_neg (by decide), if_neg (by decide), if_pos trivial, hua])
              have HLT := Lib.hid (unA_lt hua)
              clear hua
              go_wp2_with (go_at_call 27; refine hUn.mono ?_; rintro e w7 ⟨hb7, h⟩; rcases h with ⟨h, _⟩ | ⟨l2, lo, lc, h, hl44, hln, rfl, hnl⟩; (rw [HUA.out] at h; cases h); obtain rfl : l = l2 := (by rw [HUA.out] at h; simpa using h); have HB7 := Lib.hid (HB6.out.trans (hb7.mono HB6.out.size)); have HNL := Lib.hid hnl; have HLN := Lib.hid hln; have HO7 := Lib.hid (show OwnT w7 hi _ [sI (T : Int)] from (Chg.ofBelowAny (S := fun _ => False) hb7).owns hOL.out (fun _ _ h => h)); have HS7 : Hid (hi ≤ w7.heap.size) := Lib.hid (Nat.le_trans HS6.out hb7.size); clear hb7 hUn h hnl hln hl44 hOL HB6 HS6 HR6)
              obtain ⟨q, hq⟩ : ∃ q, q = l.length := ⟨_, rfl⟩
              have hq9 : q ≤ 999 := by have := HLN.out; omega
              have HQ := Lib.hid hq
              have HNL2 : Hid (OwnN w7 w6.heap.size (.slice lo q lc) l) := Lib.hid (by rw [hq]; exact HNL.out)
              rw [← hq] at HCD ⊢
              clear hq HNL
              go_loopg [7, 8, 12, 85] q (fun m s7 s8 s12 s85 wr => ∃ (k : Nat) (ao : Option Addr) (cap : Nat), k + m = q ∧ s85 = .int .i64 (k : Int) ∧ s12 = .int .u64 ((dd l k : Nat) : Int) ∧ s7 = .int .u64 ((seq2 T l k : Nat) : Int) ∧ s8 = .slice ao (k + 1) cap ∧ Hid (OwnT wr hi (.slice ao (k + 1) cap) (lst (seq2 T l) (k + 1))) ∧ Hid (Below w.heap.size w wr) ∧ Hid (hi ≤ wr.heap.size) ∧ Hid (OwnN wr w6.heap.size (.slice lo q lc) l) ∧ Hid (∀ j, (Value.slice ao (k + 1) cap).ownBlock = some j → (Value.slice lo q lc).ownBlock ≠ some j))
              case atStart => exact ⟨0, some ⟨w5.heap.size, 0, none⟩, 1, by omega, rfl, rfl, rfl, rfl, Lib.hid (by rw [lst_one]; exact HO7.out), HB7, HS7, HNL2, Lib.hid (fun j hj e => by
                have h8 := (World.ownsRow.lt HNL2.out j e).1
                have h9 := hw56.out
                simp only [Value.ownBlock, Option.some.injEq] at hj
                omega)⟩
              case round =>
                clear HO7 HB7 HS7 HNL2
                obtain ⟨k, ao, cap, hk, rfl, rfl, rfl, rfl, HOt, HBx, HSz, HNL, HDJ⟩ := hrel
                by_cases h0 : gk = 0
                · obtain rfl : k = q := by omega
                  have hE := encode_any (lst (seq2 T l) (k + 1)) _ wr (candS_ok HCD.out) HOt.out.tms
                  cases hes : encS (lst (seq2 T l) (k + 1)) with
                  | none =>
                    have HU := Lib.hid (dec_candS HCD.out (by rw [hes]; simp))
                    go_upto_region 32 with (go_at_call 10; refine hE.mono ?_; rintro e w6 ⟨hb6, h⟩; rw [hes] at h; rcases h with ⟨_, rfl⟩ | ⟨_, _, _, h, _⟩; have HB6 := Lib.hid (HBx.out.trans (hb6.mono HBx.out.size)); clear hb6 hE; rotate_left 1; cases h)
                    go_wp2_with fail
                    go_ret2
                    exact ⟨HB6.out, .inl ⟨HU.out, by go_light; rfl⟩⟩
                  | some c =>
                    have HES := Lib.hid hes
                    go_upto_region 32 with (go_at_call 10; refine hE.mono ?_; rintro e w6 ⟨hb6, h⟩; rw [HES.out] at h; rcases h with ⟨h, _⟩ | ⟨c2, co, cc, h, _, _, rfl, ho6⟩; cases h; obtain rfl : c = c2 := (by simpa using h); have HB6 := Lib.hid (HBx.out.trans (hb6.mono HBx.out.size)); have hEQ := bytesEqual_any bs c _ _ w6 (RdV.below HR.out HB6.out) ho6.rd; have HT6 := Lib.hid (show Tms w6 (.slice ao ((k + 1)) cap) (lst (seq2 T l) (k + 1)) from RdV.below HOt.out.tms hb6); clear hb6 hE ho6 h)
                    clear hes
                    by_cases hcb : bs = c
                    · subst hcb
                      have HU := Lib.hid (show decS bs = some (lst (seq2 T l) (k + 1)) by unfold decS; rw [HCD.out]; simp only; rw [if_pos HES.out])
                      have hbb : (bs == bs) = true := by simp
                      rw [hbb] at hEQ
                      go_wp2_with (go_at_call 29; refine hEQ.mono ?_; rintro _ _ ⟨rfl, rfl⟩)
                      go_ret2
                      exact ⟨HB6.out, .inr ⟨lst (seq2 T l) (k + 1), ao, cap, HU.out, by rw [lst_len]; go_light; rfl, by rw [lst_len]; exact HT6.out⟩⟩
                    · have HU := Lib.hid (dec_candS HCD.out (by rw [HES.out]; intro h; exact hcb (by simpa using h.symm)))
                      have hbb : (bs == c) = false := by simpa using hcb
                      rw [hbb] at hEQ
                      go_wp2_with (go_at_call 29; refine hEQ.mono ?_; rintro _ _ ⟨rfl, rfl⟩)
                      go_ret2
                      exact ⟨HB6.out, .inl ⟨HU.out, by go_light; rfl⟩⟩
                · have hkn : k < q := by omega
                  obtain ⟨b, off, bcap, he, _, hc⟩ := num_at HNL.out.nums k (by rw [← HQ.out]; exact hkn)
                  simp only [Value.slice.injEq] at he
                  obtain ⟨rfl, h9, rfl⟩ := he
                  have hlk := HLT.out (l.getD k 0) (by
                    have hkl : k < l.length := by rw [← HQ.out]; exact hkn
                    rw [show l.getD k 0 = l[k] by simp [hkl]]; exact List.getElem_mem hkl)
                  have hzag := fun (wx : World) => zag_any (l.getD k 0) hlk wx
                  have hd1 : IntKind.u64.wrap (((dd l k : Nat) : Int) + IntKind.u64.wrap (zagZ (l.getD k 0))) = ((dd l (k + 1) : Nat) : Int) := by rw [u64_wrap (zagZ _), u64_wrap, uT_addr]; rfl
                  have hadd : IntKind.u64.wrap (((seq2 T l k : Nat) : Int) + ((dd l (k + 1) : Nat) : Int)) = ((seq2 T l (k + 1) : Nat) : Int) := u64_wrap _
                  have hsw := i64_wrap ((seq2 T l (k + 1) : Nat) : Int)
                  have h63 : Hid (k + 1 + 1 ≤ maxLen) := Lib.hid (by unfold maxLen; omega)
                  have hby : Hid ((k + 1 + 1) * 8 ≤ 140737488355328) := Lib.hid (by omega)
                  have hO1 := Lib.hid HOt.out.row
                  have hba : Hid (∀ o, hi ≤ (wr.alloc o).heap.size) := Lib.hid (fun o => by have h6 := HSz.out; have e2 : (wr.alloc o).heap.size = wr.heap.size + 1 := (by simp); omega)
                  obtain ⟨V, hV⟩ : ∃ V, V = seq2 T l (k + 1) := ⟨_, rfl⟩
                  rw [← hV] at hadd hsw
                  have HV := Lib.hid hV
                  obtain ⟨sV, hsV⟩ : ∃ sV, sV = sI (V : Int) := ⟨_, rfl⟩
                  rw [← hsV] at hsw
                  have hcell2 : Hid (sV = sI ((seq2 T l (k + 1) : Nat) : Int)) := Lib.hid (by rw [hsV, hV])
                  clear hV hsV h9 hlk
                  obtain ⟨D2, hD2⟩ : ∃ D2, D2 = dd l (k + 1) := ⟨_, rfl⟩
                  rw [← hD2] at hd1 hadd
                  have HD2 := Lib.hid hD2
                  clear hD2
                  generalize dd l k = D1 at *
                  generalize seq2 T l k = U at *
                  generalize zagZ (l.getD k 0) = z at *
                  generalize l.getD k 0 = x at *
                  go_wp2_with (first
                    | (go_at_call 28; refine (hzag _).mono ?_; rintro _ _ ⟨rfl, rfl⟩)
                    | (at_builtin; refine wpList_append_rd _ rfl (.tmp 97) (.tmp 100) 22 rfl hi 2 (.int .i64 0) 1 8 Try.underlying22 infoI64 rfl (by decide) (.slice ao (k + 1) cap) (k + 1) ((lst (seq2 T l) (k + 1)).map tV) rfl (World.ownsRow.alloc hO1.out _) (.slice (some ⟨_, 0, none⟩) 1 1) 1 [tV sV] rfl (RdV.one _ _ 2) (one_one _ rfl) h63.out hby.out (hba.out _) ?_; intro ao6 cap6 w6 hg6; have HG := Lib.hid hg6.ofAlloc; clear hg6))
                  go_roundg (gk - 1)
                  case measure => go_light; omega
                  case rel =>
                    go_light
                    exact ⟨k + 1, ao6, cap6, by omega, by go_num, by rw [HD2.out], by rw [HV.out], rfl, Lib.hid (OwnT.next hcell2.out HG.out), Lib.hid (HBx.out.trans (HG.out.below HBx.out.size (fun j hj => by have h8 := (World.ownsRow.lt hO1.out j hj).1; have h9 := hbk.out; have h10 := hbh.out; omega))), Lib.hid (Nat.le_trans HSz.out HG.out.grown.size), Lib.hid (HG.out.chg.owns HNL.out (fun j hj e => HDJ.out j e hj)), Lib.hid (fun j hj e => by
                      rcases HG.out.row j hj with h8 | h8
                      · exact HDJ.out j h8 e
                      · have := (World.ownsRow.lt HNL.out j e).2; omega)⟩
          · have HCD : Hid (candS bs = some (lst (fun _ => T) (0 + 1))) := Lib.hid (by rw [HC2.out, if_neg hM0, if_neg hM1, if_neg hM2])
            have hm0 : ((M : Int) == 0) = false := decide_eq_false (by omega)
            have hm1 : ((M : Int) == 1) = false := decide_eq_false (by omega)
            have hm2 : ((M : Int) == 2) = false := decide_eq_false (by omega)
            go_upto_region 31 with (go_at_call 26; refine (bad_any _ _ _ _ _ _ _ HR5.out).mono ?_; rintro _ _ ⟨rfl, rfl⟩)
            clear HR5 HB5 hs5
            have HOt : Hid (OwnT (w5.alloc (.cells #[.int .i64 (sI (T : Int))] 2)) hi (.slice (some ⟨w5.heap.size, 0, none⟩) (0 + 1) 1) (lst (fun _ => T) (0 + 1))) := Lib.hid (by rw [lst_one]; exact hOL.out)
            have HBx := HB6
            generalize w5.alloc (.cells #[.int .i64 (sI (T : Int))] 2) = w6 at *
            have hE := encode_any (lst (fun _ => T) (0 + 1)) _ w6 (candS_ok HCD.out) HOt.out.tms
            cases hes : encS (lst (fun _ => T) (0 + 1)) with
            | none =>
              have HU := Lib.hid (dec_candS HCD.out (by rw [hes]; simp))
              go_upto_region 32 with (go_at_call 10; refine hE.mono ?_; rintro e w6 ⟨hb6, h⟩; rw [hes] at h; rcases h with ⟨_, rfl⟩ | ⟨_, _, _, h, _⟩; have HB6 := Lib.hid (HBx.out.trans (hb6.mono HBx.out.size)); clear hb6 hE; rotate_left 1; cases h)
              go_wp2_with fail
              go_ret2
              exact ⟨HB6.out, .inl ⟨HU.out, by go_light; rfl⟩⟩
            | some c =>
              have HES := Lib.hid hes
              go_upto_region 32 with (go_at_call 10; refine hE.mono ?_; rintro e w6 ⟨hb6, h⟩; rw [HES.out] at h; rcases h with ⟨h, _⟩ | ⟨c2, co, cc, h, _, _, rfl, ho6⟩; cases h; obtain rfl : c = c2 := (by simpa using h); have HB6 := Lib.hid (HBx.out.trans (hb6.mono HBx.out.size)); have hEQ := bytesEqual_any bs c _ _ w6 (RdV.below HR.out HB6.out) ho6.rd; have HT6 := Lib.hid (show Tms w6 (.slice (some ⟨w5.heap.size, 0, none⟩) ((0 + 1)) 1) (lst (fun _ => T) (0 + 1)) from RdV.below HOt.out.tms hb6); clear hb6 hE ho6 h)
              clear hes
              by_cases hcb : bs = c
              · subst hcb
                have HU := Lib.hid (show decS bs = some (lst (fun _ => T) (0 + 1)) by unfold decS; rw [HCD.out]; simp only; rw [if_pos HES.out])
                have hbb : (bs == bs) = true := by simp
                rw [hbb] at hEQ
                go_wp2_with (go_at_call 29; refine hEQ.mono ?_; rintro _ _ ⟨rfl, rfl⟩)
                go_ret2
                exact ⟨HB6.out, .inr ⟨lst (fun _ => T) (0 + 1), (some ⟨w5.heap.size, 0, none⟩), 1, HU.out, by rw [lst_len]; go_light; rfl, by rw [lst_len]; exact HT6.out⟩⟩
              · have HU := Lib.hid (dec_candS HCD.out (by rw [HES.out]; intro h; exact hcb (by simpa using h.symm)))
                have hbb : (bs == c) = false := by simpa using hcb
                rw [hbb] at hEQ
                go_wp2_with (go_at_call 29; refine hEQ.mono ?_; rintro _ _ ⟨rfl, rfl⟩)
                go_ret2
                exact ⟨HB6.out, .inl ⟨HU.out, by go_light; rfl⟩⟩
end Go.Proofs.Ytcgjbjiififkhaa
