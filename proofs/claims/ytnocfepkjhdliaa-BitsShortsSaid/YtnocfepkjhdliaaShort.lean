/- The contracts of bits.Short, bits.ReadShort and of the references' Short and ReadShort. -/
import Derived.Test.YtnocfepkjhdliaaShortPlain
import Derived.Test.YtnocfepkjhdliaaWriter
import Derived.Deep.RegionWith
import Derived.Deep.CutBlock
namespace Go.Proofs.Ytnocfepkjhdliaa
open Go.RowKit
set_option linter.unusedVariables false

theorem short_or (n : Nat) : Go.bits .or .u8 (((n : Nat) : Int) % 256) 128 = ((UInt8.ofNat (n % 128 + 128)).toNat : Int) := by
  have e : ((n : Nat) : Int) % 256 = ((n % 256 : Nat) : Int) := by omega
  rw [e, show (128 : Int) = ((128 : Nat) : Int) from rfl, u8_or_nat _ _ (by omega) (by omega)]
  have h : n % 256 ||| 128 = n % 128 + 128 := by
    have h1 : n % 256 = n % 128 ∨ n % 256 = n % 128 + 128 := by omega
    have h2 : n % 128 < 2 ^ 7 := by omega
    have h3 : n % 128 ||| 128 = n % 128 + 128 := by
      rw [Nat.or_comm, nat_join 7 128 _ (by decide) h2]; omega
    rcases h1 with h1 | h1
    · rw [h1, h3]
    · rw [h1, ← h3, Nat.or_assoc, Nat.or_self]
  rw [h]
  simp
  omega

set_option maxHeartbeats 400000 in
theorem short_any (n : Nat) (hn : n < 18446744073709551616) (w : World) :
    Calls Try.prog 20 #[.int .u64 n] w fun e w' => ∃ ao cap, e = .returned (.slice ao (short n).length cap) ∧ Own w' w.heap.size (.slice ao (short n).length cap) (short n) ∧ Below w.heap.size w w' := by
  have hlen := short_len n 10 (Nat.lt_of_lt_of_le hn (by decide)) (by omega)
  go_enter Try.func20, Try.ntmps20
  go_wp2_with fail
  go_loopg [0, 3] n (fun m s0 s3 wr => s0 = .int .u64 (m : Nat) ∧ m < 18446744073709551616 ∧ ∃ acc ao cap, acc ++ short m = short n ∧ s3 = .slice ao acc.length cap ∧ Own wr w.heap.size (.slice ao acc.length cap) acc ∧ Below w.heap.size w wr)
  case atStart => exact ⟨rfl, hn, [], none, 0, rfl, rfl, Own.nil _ _, Below.refl _ _⟩
  case round =>
    obtain ⟨rfl, hm, acc, ao, cap, hacc, rfl, hown, hbel⟩ := hrel
    have hal : acc.length + (short gk).length ≤ 10 := by rw [← List.length_append, hacc]; exact hlen
    have h63 : acc.length + 1 ≤ maxLen := by unfold maxLen; omega
    have hby : (acc.length + 1) * 1 ≤ 140737488355328 := by omega
    have hba : ∀ o, w.heap.size ≤ (wr.alloc o).heap.size := fun o => by have := hbel.size; simp; omega
    have hlow : ∀ r, (Value.slice ao acc.length cap).ownBlock = some r → w.heap.size ≤ r := fun r hr => (hown.lt r hr).1
    have HA := Lib.hid hacc
    have HB := Lib.hid hbel
    have HL := Lib.hid hlow
    clear hacc hbel hlow
    by_cases h : 127 < gk
    · go_wp2_with (at_builtin; refine wpList_append_rd _ rfl (.tmp 8) (.tmp 12) 30 rfl w.heap.size 5 (.int .u8 0) 1 1 Try.underlying30 infoU8 rfl (by decide) _ _ _ rfl (hown.alloc _) (.slice (some ⟨wr.heap.size, 0, none⟩) 1 1) 1 [.int .u8 (Go.bits .or .u8 ((gk : Int) % 256) 128)] rfl (RdV.one _ _ _) (one_one _ rfl) h63 hby (hba _) ?_; intro ao1 cap1 w1 hg1; have HG := Lib.hid hg1; clear hg1)
      go_roundg (gk / 128)
      case measure => go_light; omega
      case rel =>
        go_light
        have hg := HG.out.ofAlloc
        have e2 : acc.map bV ++ [.int .u8 (Go.bits .or .u8 ((gk : Int) % 256) 128)] = (acc ++ [UInt8.ofNat (gk % 128 + 128)]).map bV := by rw [short_or]; simp [bV]
        rw [e2] at hg
        refine ⟨by congr 1, by omega, acc ++ [UInt8.ofNat (gk % 128 + 128)], ao1, cap1, ?_, by simp, by simpa [Own] using hg.owns, HB.out.trans (hg.below HB.out.size HL.out)⟩
        rw [← HA.out, short_ge gk (by omega), List.append_assoc]; rfl
    · go_wp2_with (at_builtin; refine wpList_append_rd _ rfl (.tmp 14) (.tmp 17) 30 rfl w.heap.size 5 (.int .u8 0) 1 1 Try.underlying30 infoU8 rfl (by decide) _ _ _ rfl (hown.alloc _) (.slice (some ⟨wr.heap.size, 0, none⟩) 1 1) 1 [.int .u8 (gk : Int)] rfl (RdV.one _ _ _) (one_one _ rfl) h63 hby (hba _) ?_; intro ao1 cap1 w1 hg1; have HG := Lib.hid hg1; clear hg1)
      go_ret
      have hg := HG.out.ofAlloc
      have e2 : acc.map bV ++ [.int .u8 (gk : Int)] = (acc ++ [UInt8.ofNat gk]).map bV := by simp [bV]; omega
      have e3 : acc ++ [UInt8.ofNat gk] = short n := by rw [← HA.out, short_lt gk (by omega)]
      have e4 : acc.length + 1 = (short n).length := by rw [← e3]; simp
      rw [e2, e3, e4] at hg
      refine ⟨ao1, cap1, by rw [e4]; rfl, hg.owns, HB.out.trans (hg.below HB.out.size HL.out)⟩

set_option maxHeartbeats 400000 in
theorem rshort_any (n : Nat) (hn : n < 18446744073709551616) (w : World) :
    Calls Try.prog 23 #[.int .u64 n] w fun e w' => ∃ ao cap, e = .returned (.slice ao (short n).length cap) ∧ Own w' w.heap.size (.slice ao (short n).length cap) (short n) ∧ Below w.heap.size w w' := by
  have hlen := short_len n 10 (Nat.lt_of_lt_of_le hn (by decide)) (by omega)
  go_enter Try.func23, Try.ntmps23
  go_wp2_with fail
  go_loopg [0, 3] n (fun m s0 s3 wr => s0 = .int .u64 (m : Nat) ∧ m < 18446744073709551616 ∧ ∃ acc ao cap, acc ++ short m = short n ∧ s3 = .slice ao acc.length cap ∧ Own wr w.heap.size (.slice ao acc.length cap) acc ∧ Below w.heap.size w wr)
  case atStart => exact ⟨rfl, hn, [], none, 0, rfl, rfl, Own.nil _ _, Below.refl _ _⟩
  case round =>
    obtain ⟨rfl, hm, acc, ao, cap, hacc, rfl, hown, hbel⟩ := hrel
    have hal : acc.length + (short gk).length ≤ 10 := by rw [← List.length_append, hacc]; exact hlen
    have h63 : acc.length + 1 ≤ maxLen := by unfold maxLen; omega
    have hby : (acc.length + 1) * 1 ≤ 140737488355328 := by omega
    have hba : ∀ o, w.heap.size ≤ (wr.alloc o).heap.size := fun o => by have := hbel.size; simp; omega
    have hlow : ∀ r, (Value.slice ao acc.length cap).ownBlock = some r → w.heap.size ≤ r := fun r hr => (hown.lt r hr).1
    have HA := Lib.hid hacc
    have HB := Lib.hid hbel
    have HL := Lib.hid hlow
    clear hacc hbel hlow
    by_cases h : (128 : Int) ≤ (gk : Int)
    · go_wp2_with (at_builtin; refine wpList_append_rd _ rfl (.tmp 6) (.tmp 11) 30 rfl w.heap.size 5 (.int .u8 0) 1 1 Try.underlying30 infoU8 rfl (by decide) _ _ _ rfl (hown.alloc _) (.slice (some ⟨wr.heap.size, 0, none⟩) 1 1) 1 [_] rfl (RdV.one _ _ _) (one_one _ rfl) h63 hby (hba _) ?_; intro ao1 cap1 w1 hg1; have HG := Lib.hid hg1; clear hg1)
      go_roundg (gk / 128)
      case measure => go_light; omega
      case rel =>
        go_light
        have hg := HG.out.ofAlloc
        have e2 : acc.map bV ++ [.int .u8 ((gk : Int) % 128 + 128)] = (acc ++ [UInt8.ofNat (gk % 128 + 128)]).map bV := by simp [bV]; omega
        rw [e2] at hg
        refine ⟨by congr 1, by omega, acc ++ [UInt8.ofNat (gk % 128 + 128)], ao1, cap1, ?_, by simp, by simpa [Own] using hg.owns, HB.out.trans (hg.below HB.out.size HL.out)⟩
        rw [← HA.out, short_ge gk (by omega), List.append_assoc]; rfl
    · go_wp2_with (at_builtin; refine wpList_append_rd _ rfl (.tmp 15) (.tmp 18) 30 rfl w.heap.size 5 (.int .u8 0) 1 1 Try.underlying30 infoU8 rfl (by decide) _ _ _ rfl (hown.alloc _) (.slice (some ⟨wr.heap.size, 0, none⟩) 1 1) 1 [_] rfl (RdV.one _ _ _) (one_one _ rfl) h63 hby (hba _) ?_; intro ao1 cap1 w1 hg1; have HG := Lib.hid hg1; clear hg1)
      go_ret
      have hg := HG.out.ofAlloc
      have e2 : acc.map bV ++ [.int .u8 (gk : Int)] = (acc ++ [UInt8.ofNat gk]).map bV := by simp [bV]; omega
      have e3 : acc ++ [UInt8.ofNat gk] = short n := by rw [← HA.out, short_lt gk (by omega)]
      have e4 : acc.length + 1 = (short n).length := by rw [← e3]; simp
      rw [e2, e3, e4] at hg
      refine ⟨ao1, cap1, by rw [e4]; rfl, hg.owns, HB.out.trans (hg.below HB.out.size HL.out)⟩

theorem ret_pair {k k' : IntKind} {a b a' b' : Int} (h : a = a') (h' : b = b') : Ending.returned (.tuple #[.int k a, .int k' b]) = .returned (.tuple #[.int k a', .int k' b']) := by rw [h, h']

/-- One byte more, in the walk's numbers. -/
theorem rs_num (n i : Nat) (c : UInt8) (hn : n < 2 ^ (7 * i)) (hi : i < 10) (h9 : i = 9 → c.toNat % 128 ≤ 1) :
    Go.bits .or .u64 (n : Int) (IntKind.u64.wrap (IntKind.u64.wrap (Go.bits .and .u8 (c.toNat : Int) 127) * 2 ^ (7 * i))) = ((n + c.toNat % 128 * 2 ^ (7 * i) : Nat) : Int) ∧ n + c.toNat % 128 * 2 ^ (7 * i) < 2 ^ (7 * (i + 1)) ∧ n + c.toNat % 128 * 2 ^ (7 * i) < 18446744073709551616 := by
  have hc := c.toNat_lt
  have e1 : Go.bits .and .u8 (c.toNat : Int) 127 = ((c.toNat % 128 : Nat) : Int) := by
    have h := u8_and_nat c.toNat 127 (by omega) (by omega)
    rw [nat_mask7] at h
    exact h
  have hp : 0 < (2 : Nat) ^ (7 * i) := Nat.two_pow_pos _
  have hmul : (c.toNat % 128 + 1) * 2 ^ (7 * i) ≤ 128 * 2 ^ (7 * i) := Nat.mul_le_mul_right _ (by omega)
  rw [Nat.add_mul] at hmul
  have e128 : 128 * (2 : Nat) ^ (7 * i) = 2 ^ (7 * (i + 1)) := by rw [show 7 * (i + 1) = 7 * i + 7 by omega, Nat.pow_add, Nat.mul_comm]
  have hlt : n + c.toNat % 128 * 2 ^ (7 * i) < 2 ^ (7 * (i + 1)) := by omega
  have h64 : n + c.toNat % 128 * 2 ^ (7 * i) < 18446744073709551616 := by
    by_cases h8 : i = 9
    · have h1 := h9 h8
      have h2 : c.toNat % 128 * 2 ^ (7 * i) ≤ 1 * 2 ^ (7 * i) := Nat.mul_le_mul_right _ h1
      rw [h8] at h2 hn ⊢
      have e63 : (2 : Nat) ^ (7 * 9) = 9223372036854775808 := by decide
      omega
    · have h5 : (2 : Nat) ^ (7 * (i + 1)) ≤ 2 ^ 63 := Nat.pow_le_pow_right (by omega) (by omega)
      have e63 : (2 : Nat) ^ 63 = 9223372036854775808 := by decide
      omega
  refine ⟨?_, hlt, h64⟩
  have e2 : ((c.toNat % 128 : Nat) : Int) * 2 ^ (7 * i) = ((c.toNat % 128 * 2 ^ (7 * i) : Nat) : Int) := by simp
  rw [e1, IntWalk.u64_in ((c.toNat % 128 : Nat) : Int) (by omega), e2, IntWalk.u64_in _ (by omega), u64_or_nat _ _ (by omega) (by omega), Nat.or_comm, nat_join (7 * i) _ _ (by simp) hn, Nat.add_comm]

set_option maxHeartbeats 400000 in
theorem readShort_any (v : Value) (bs : List UInt8) (w : World) (hl : bs.length ≤ 140737488355328) (hr : Rd w v bs) :
    Calls Try.prog 21 #[v] w fun e w' => e = .returned (.tuple #[.int .u64 ((rs bs 0 0).1 : Nat), .int .i64 ((rs bs 0 0).2 : Nat)]) ∧ w = w' := by
  obtain ⟨ao0, cap0, rfl, hlc, hcm⟩ := RdV.shape hr
  unfold maxLen at hcm
  go_enter Try.func21, Try.ntmps21
  go_wp2_with fail
  go_loopg [4, 5, 6, 9] bs.length (fun m s4 s5 s6 s9 wr => wr = w ∧ ∃ i n : Nat, i + m = bs.length ∧ i ≤ 9 ∧ s9 = .int .i64 (i : Nat) ∧ s4 = .int .u64 (n : Nat) ∧ n < 2 ^ (7 * i) ∧ rs (bs.drop i) i n = rs bs 0 0)
  case atStart => exact ⟨rfl, 0, 0, by omega, by omega, rfl, rfl, by simp, rfl⟩
  case round =>
    obtain ⟨rfl, i, n, hi, hi10, rfl, rfl, hn, hrs⟩ := hrel
    by_cases h0 : gk = 0
    · obtain rfl : i = bs.length := by omega
      have E := Lib.hid (show rs bs 0 0 = (0, 0) by rw [← hrs, List.drop_length]; rfl)
      clear hrs hn
      go_wp2
      go_ret2
      rw [E.out]
      exact ⟨rfl, rfl⟩
    · have hlt : i < bs.length := by omega
      obtain ⟨b, off, cap', he, hcell⟩ := rdOne hr i hlt
      simp only [Value.slice.injEq, true_and] at he
      obtain ⟨rfl, rfl⟩ := he
      obtain ⟨c, hc⟩ : ∃ c, c = bs[i] := ⟨_, rfl⟩
      have hdrop : bs.drop i = c :: bs.drop (i + 1) := by rw [hc, List.getElem_cons_drop]
      rw [hdrop] at hrs
      rw [← hc] at hcell
      have hcb := c.toNat_lt
      have hstep : rs (c :: bs.drop (i + 1)) i n = if i = 9 ∧ 1 < c.toNat then (0, 0)
        else if c.toNat < 128 then (if c.toNat = 0 ∧ 0 < i then (0, 0) else (n + c.toNat % 128 * 2 ^ (7 * i), i + 1))
        else rs (bs.drop (i + 1)) (i + 1) (n + c.toNat % 128 * 2 ^ (7 * i)) := rfl
      rw [hstep] at hrs
      obtain ⟨x, hx⟩ : ∃ x : Int, x = (c.toNat : Int) := ⟨_, rfl⟩
      rw [← hx] at hcell
      have hx0 : 0 ≤ x := by omega
      have hx1 : x ≤ 255 := by omega
      have HR := Lib.hid hrs
      have HI := Lib.hid hi
      have HN := Lib.hid hn
      have HX := Lib.hid hx
      clear hrs hi hn hstep hdrop hc hr hcb
      by_cases h9 : i = 9 ∧ 1 < c.toNat
      · obtain ⟨rfl, h1⟩ := h9
        have h1' : 1 < x := by omega
        have E := Lib.hid (show rs bs 0 0 = (0, 0) by rw [← HR.out, if_pos ⟨rfl, h1⟩])
        clear h1 HR hx
        go_wp2
        go_ret2
        rw [E.out]
        exact ⟨rfl, rfl⟩
      · have hnum := rs_num n i c HN.out (by omega) (by omega)
        obtain ⟨hnum1, hnum2, hnum3⟩ := hnum
        rw [← hx] at hnum1
        have HU := Lib.hid hnum1
        clear hnum1
        have hR2 := HR.out
        rw [if_neg h9] at hR2
        have h9i : (i : Int) < 9 ∨ ((i : Int) = 9 ∧ x ≤ 1) := by omega
        clear HR
        by_cases h128 : c.toNat < 128
        · have h128' : x < 128 := by omega
          rw [if_pos h128] at hR2
          by_cases hz : c.toNat = 0 ∧ 0 < i
          · rw [if_pos hz] at hR2
            have E := Lib.hid hR2.symm
            have hz2 : (0 : Int) < (i : Int) := by omega
            obtain rfl : x = 0 := by omega
            have h9j : (i : Int) < 9 ∨ i = 9 := by omega
            clear hR2 hz h128 h9 hnum2 hnum3 HU h128' h9i hx0 hx1 hx
            rcases h9j with h9i | rfl
            all_goals
              go_wp2
              go_ret2
              rw [E.out]
              exact ⟨rfl, rfl⟩
          · rw [if_neg hz] at hR2
            have E := Lib.hid hR2.symm
            have hz' : 0 < x ∧ (i : Int) < 9 ∨ 0 < x ∧ x ≤ 1 ∧ i = 9 ∨ i = 0 ∧ x = 0 := by omega
            clear hR2 hz h128 h9 hnum2 hnum3 h9i hx
            rcases hz' with ⟨hz', h9i⟩ | ⟨hz', h9i, rfl⟩ | ⟨rfl, rfl⟩
            · go_wp2
              go_ret2
              rw [E.out]
              exact ⟨ret_pair HU.out (by omega), rfl⟩
            · go_wp2
              go_ret2
              rw [E.out]
              exact ⟨ret_pair HU.out (by omega), rfl⟩
            · simp only [Nat.add_zero] at hcell
              go_wp2
              go_ret2
              rw [E.out]
              exact ⟨ret_pair HU.out (by omega), rfl⟩
        · have h128' : ¬ x < 128 := by omega
          rw [if_neg h128] at hR2
          have E := Lib.hid hR2
          have hi8 : i ≤ 8 := by omega
          have h9f : ((i : Int) == 9) = false := by simp; omega
          have H2 := Lib.hid hnum2
          clear hR2 h128 h9 hnum2 hnum3 h9i hx
          go_wp2
          go_roundg (gk - 1)
          case measure => go_light; omega
          case rel =>
            go_light
            rw [HU.out]
            exact ⟨rfl, i + 1, n + c.toNat % 128 * 2 ^ (7 * i), by have := HI.out; omega, by omega, by go_num, rfl, H2.out, E.out⟩

/-- The same, a bit cut off above. -/
theorem rs_num_mod (n i : Nat) (c : UInt8) (hn : n < 2 ^ (7 * i)) (hi : i < 10) :
    Go.bits .or .u64 (n : Int) (IntKind.u64.wrap (IntKind.u64.wrap (Go.bits .and .u8 (c.toNat : Int) 127) * 2 ^ (7 * i))) = (((n + c.toNat % 128 * 2 ^ (7 * i)) % 18446744073709551616 : Nat) : Int) := by
  by_cases h : i = 9 → c.toNat % 128 ≤ 1
  · obtain ⟨h1, _, h3⟩ := rs_num n i c hn hi h
    rw [h1, Nat.mod_eq_of_lt h3]
  · have hi9 : i = 9 := by
      by_cases h9 : i = 9
      · exact h9
      · exact absurd (fun e => absurd e h9) h
    subst hi9
    have hc := c.toNat_lt
    have e1 : Go.bits .and .u8 (c.toNat : Int) 127 = ((c.toNat % 128 : Nat) : Int) := by
      have h := u8_and_nat c.toNat 127 (by omega) (by omega)
      rw [nat_mask7] at h
      exact h
    have e63 : (2 : Nat) ^ (7 * 9) = 9223372036854775808 := by decide
    have e63' : (2 : Int) ^ (7 * 9) = 9223372036854775808 := by decide
    rw [e63] at hn ⊢
    rw [e1, IntWalk.u64_in ((c.toNat % 128 : Nat) : Int) (by omega), e63', IntKind.wrap_u64]
    have e2 : ((c.toNat % 128 : Nat) : Int) * 9223372036854775808 % 18446744073709551616 = ((c.toNat % 2 * 9223372036854775808 : Nat) : Int) := by omega
    rw [e2, u64_or_nat _ _ (by omega) (by omega), Nat.or_comm, nat_join 63 _ _ (by omega) (by simpa using hn)]
    omega

set_option maxHeartbeats 1000000 in
theorem rreadShort_any (v : Value) (bs : List UInt8) (w : World) (hl : bs.length ≤ 140737488355328) (hr : Rd w v bs) :
    Calls Try.prog 22 #[v] w fun e w' => e = .returned (.tuple #[.int .u64 ((rs bs 0 0).1 : Nat), .int .i64 ((rs bs 0 0).2 : Nat)]) ∧ Below w.heap.size w w' := by
  obtain ⟨ao0, cap0, rfl, hlc, hcm⟩ := RdV.shape hr
  unfold maxLen at hcm
  go_enter Try.func22, Try.ntmps22
  go_wp2_with fail
  go_loopg [4, 5] bs.length (fun m s4 s5 wr => w = wr ∧ ∃ i : Nat, i + m = bs.length ∧ i ≤ 10 ∧ s5 = .int .i64 (i : Nat) ∧ s4 = .int .u64 ((val7 (bs.take i) % 18446744073709551616 : Nat)) ∧ (∀ y ∈ bs.take i, 128 ≤ y.toNat) ∧ (i ≤ 9 → rs (bs.drop i) i (val7 (bs.take i)) = rs bs 0 0) ∧ (i = 10 → rs bs 0 0 = (0, 0)))
  case atStart => exact ⟨rfl, 0, by omega, by omega, rfl, by simp [val7], by simp, fun _ => by simp [val7], by omega⟩
  case round =>
    obtain ⟨rfl, i, hi, hi10, rfl, rfl, hpre, hrs, h10⟩ := hrel
    by_cases hend : i = bs.length ∨ i = 10
    · have E := Lib.hid (show rs bs 0 0 = (0, 0) by
        by_cases h : i = 10
        · exact h10 h
        · have e : i = bs.length := by omega
          rw [← hrs (by omega), e, List.drop_length]; rfl)
      have hcase : (bs.length : Int) ≤ (i : Int) ∨ ((i : Int) < (bs.length : Int) ∧ 10 ≤ (i : Int)) := by omega
      clear hrs h10 hpre hend
      rcases hcase with h | ⟨h, h'⟩
      all_goals
        go_wp2
        go_ret2
        rw [E.out]
        exact ⟨rfl, Below.refl _ _⟩
    · have hlt : i < bs.length := by omega
      have hi9 : i ≤ 9 := by omega
      obtain ⟨b, off, cap', he, hcell⟩ := rdOne hr i hlt
      simp only [Value.slice.injEq, true_and] at he
      obtain ⟨rfl, rfl⟩ := he
      obtain ⟨c, hc⟩ : ∃ c, c = bs[i] := ⟨_, rfl⟩
      have hdrop : bs.drop i = c :: bs.drop (i + 1) := by rw [hc, List.getElem_cons_drop]
      have htake : bs.take (i + 1) = bs.take i ++ [c] := by rw [hc, List.take_succ_eq_append_getElem hlt]
      have htl : (bs.take i).length = i := by simp; omega
      have hvlt := val7_lt (bs.take i)
      rw [htl] at hvlt
      have hcb := c.toNat_lt
      rw [← hc] at hcell
      have hR := hrs hi9
      rw [hdrop] at hR
      have hstep : ∀ m, rs (c :: bs.drop (i + 1)) i m = if i = 9 ∧ 1 < c.toNat then (0, 0)
        else if c.toNat < 128 then (if c.toNat = 0 ∧ 0 < i then (0, 0) else (m + c.toNat % 128 * 2 ^ (7 * i), i + 1))
        else rs (bs.drop (i + 1)) (i + 1) (m + c.toNat % 128 * 2 ^ (7 * i)) := fun _ => rfl
      rw [hstep] at hR
      have hv63 : val7 (bs.take i) < 18446744073709551616 := by
        have h5 : (2 : Nat) ^ (7 * i) ≤ 2 ^ 63 := Nat.pow_le_pow_right (by omega) (by omega)
        have e63 : (2 : Nat) ^ 63 = 9223372036854775808 := by decide
        omega
      have hnum := rs_num_mod (val7 (bs.take i)) i c hvlt (by omega)
      have hval : val7 (bs.take (i + 1)) = val7 (bs.take i) + c.toNat % 128 * 2 ^ (7 * i) := by
        rw [htake, val7_append, htl]; simp only [val7, Nat.mul_zero, Nat.add_zero]; rw [Nat.mul_comm]
      rw [← hval] at hnum
      rw [Nat.mod_eq_of_lt hv63]
      have htest := short_test (bs.take i) c hpre
      rw [htl, ← hval, ← htake] at htest
      obtain ⟨n, hn⟩ : ∃ n, n = val7 (bs.take i) := ⟨_, rfl⟩
      rw [← hn] at hnum hv63 hR hval ⊢
      obtain ⟨x, hx⟩ : ∃ x : Int, x = (c.toNat : Int) := ⟨_, rfl⟩
      rw [← hx] at hcell hnum
      have hx0 : 0 ≤ x := by omega
      have hx1 : x ≤ 255 := by omega
      by_cases h128 : c.toNat < 128
      · have h128' : x < 128 := by omega
        have HT := Lib.hid (htest h128 hi9)
        have HV := Lib.hid hval
        have HU := Lib.hid hnum
        have HRR := Lib.hid hR
        have HX := Lib.hid hx
        have hm64 := Nat.mod_lt (val7 (bs.take (i + 1))) (show 0 < 18446744073709551616 by omega)
        have hi1 : i + 1 ≤ bs.length := by omega
        clear htest hval hnum hR hx hstep hdrop htake hrs h10 hpre hn hvlt hcb h128
        obtain ⟨q, hq⟩ : ∃ q, q = val7 (bs.take (i + 1)) % 18446744073709551616 := ⟨_, rfl⟩
        rw [← hq] at HU HT hm64
        have HQ := Lib.hid hq
        clear hq
        go_upto_region 7 with fail
        rw [HU.out]
        go_cut [41] (fun s41 wx => s41 = .bool (!(short q == bs.take (i + 1))) ∧ Below w.heap.size w wx)
        case first =>
          have hcut : ∀ wx, Below w.heap.size w wx → (convert 30 9 (.slice (some ⟨b, off, none⟩) (i + 1) cap0)).run Try.prog wx = .ok (.string (strOf (bs.take (i + 1)))) wx := fun wx hb => by
            have h := (hr.v.below hb).cut 0 (i + 1) (by omega) hi1
            have h2 : Rd wx (.slice (some ⟨b, off, none⟩) (i + 1) cap0) (bs.take (i + 1)) := by
              unfold Rd
              have e : (bs.take (i + 1)).length = i + 1 := by simp; omega
              rw [e]
              simpa [show ¬ cap0 = 0 by omega, Addr.add, List.map_take] using h
            exact run_str h2 _ 5 _ Try.underlying30 Try.underlying5 Try.underlying9
          have c0 := hcut w.drew (Below.refl _ _).drew
          have HC := Lib.hid hcut
          have hcap0 : ¬ cap0 = 0 := by omega
          have w1e : IntKind.i64.wrap ((i : Int) + 1) = (i : Int) + 1 := IntWalk.i64_in _ (by omega)
          have w2e : (0 : Int) ≤ (i : Int) + 1 := by omega
          have w3e : ((i : Int) + 1).toNat = i + 1 := by omega
          clear hcut
          go_region_with (go_at_call 23; refine (rshort_any _ hm64 _).mono ?_; rintro e w4 ⟨ao4, cap4, rfl, ho4, hb4⟩; have c4 := run_str ho4.rd 30 5 9 Try.underlying30 Try.underlying5 Try.underlying9; have c5 := HC.out w4 ((Below.refl _ _).drew.trans hb4))
          all_goals (go_wp2_with fail; go_meet; go_light; exact ⟨by simp, (Below.refl _ _).drew.trans hb4⟩)
        case rest =>
          obtain ⟨rfl, hbx⟩ := hcut
          have HB := Lib.hid hbx
          clear hbx hr hcell
          by_cases ht : short q = bs.take (i + 1)
          · obtain ⟨t1, t2⟩ := HT.out.1 ht
            have E := HRR.out
            rw [if_neg t1, if_pos (show c.toNat < 128 by have := HX.out; omega), if_neg t2, ← HV.out] at E
            have E' := Lib.hid E.symm
            have hb' : (short q == bs.take (i + 1)) = true := by simpa using ht
            rw [hb']
            have HV2 := Lib.hid (show val7 (bs.take (i + 1)) = q by have hv := val7_short q; rw [ht] at hv; exact hv)
            clear E t1 t2 ht hb'
            go_wp2
            go_ret2
            rw [E'.out]
            exact ⟨ret_pair (by have := HV2.out; omega) (by omega), HB.out⟩
          · have E' := Lib.hid (show rs bs 0 0 = (0, 0) by
              have := HRR.out
              rw [if_pos (show c.toNat < 128 by have := HX.out; omega)] at this
              by_cases t1 : i = 9 ∧ 1 < c.toNat
              · rw [if_pos t1] at this; exact this.symm
              · rw [if_neg t1] at this
                by_cases t2 : c.toNat = 0 ∧ 0 < i
                · rw [if_pos t2] at this; exact this.symm
                · exact absurd (HT.out.2 ⟨t1, t2⟩) ht)
            have hb' : (short q == bs.take (i + 1)) = false := by simpa using ht
            rw [hb']
            clear ht hb'
            go_wp2
            go_ret2
            rw [E'.out]
            exact ⟨rfl, HB.out⟩
      · have h128' : ¬ x < 128 := by omega
        rw [if_neg h128] at hR
        have HU := Lib.hid hnum
        have HV := Lib.hid hval
        have H9 := Lib.hid hR
        have HP : Hid (∀ y ∈ bs.take (i + 1), 128 ≤ y.toNat) := by
          intro y hy
          rw [htake] at hy
          rcases List.mem_append.1 hy with h | h
          · exact hpre y h
          · simp at h; subst h; omega
        have HI := Lib.hid hi
        have hxc := Lib.hid hx
        clear htest hval hnum hR hx hstep hdrop htake hrs h10 hpre hn hvlt hcb hi hr
        go_wp2
        go_roundg (gk - 1)
        case measure => have := HI.out; go_light; omega
        case rel =>
          go_light
          rw [HU.out]
          refine ⟨rfl, i + 1, by have := HI.out; omega, by omega, by go_num, rfl, HP.out, fun h9 => ?_, fun h10 => ?_⟩
          · have h := H9.out
            rw [if_neg (show ¬ (i = 9 ∧ 1 < c.toNat) by omega), ← HV.out] at h
            exact h
          · have h := H9.out
            rw [if_pos (show i = 9 ∧ 1 < c.toNat by omega)] at h
            exact h.symm

end Go.Proofs.Ytnocfepkjhdliaa
