/- The contracts of gristref03's Of, Bits.Bytes and Bits.Get. -/
import Derived.Test.YtnocfepkjhdliaaRefPut
namespace Go.Proofs.Ytnocfepkjhdliaa
open Go.RowKit

/-- Bits as bytes, one a place. -/
def bits01 (l : List Bool) : List UInt8 := l.map b01
theorem bits01_len (l : List Bool) : (bits01 l).length = l.length := by simp [bits01]

set_option maxHeartbeats 400000 in
theorem rof_any (v : Value) (bs : List UInt8) (w : World) (hl : bs.length ≤ 17592186044400) (hr : Rd w v bs) :
    Calls Try.prog 25 #[v] w fun e w' => ∃ ao cap, e = .returned (.slice ao (bits01 (bits8 bs)).length cap) ∧ Own w' w.heap.size (.slice ao (bits01 (bits8 bs)).length cap) (bits01 (bits8 bs)) ∧ Below w.heap.size w w' := by
  obtain ⟨ao0, cap0, rfl, hlc, hcm⟩ := RdV.shape hr
  unfold maxLen at hcm
  have hbl : bs.length ≤ 9223372036854775807 := by omega
  go_enter Try.func25, Try.ntmps25
  go_wp2_with fail
  go_loopg [3, 4, 7] bs.length (fun m s3 s4 s7 wr => ∃ k : Nat, k + m = bs.length ∧ s7 = .int .i64 k ∧ ∃ ao cap, s3 = .slice ao (bits01 (bits8 (bs.take k))).length cap ∧ Own wr w.heap.size (.slice ao (bits01 (bits8 (bs.take k))).length cap) (bits01 (bits8 (bs.take k))) ∧ Below w.heap.size w wr)
  case atStart => exact ⟨0, by omega, rfl, none, 0, by simp [bits01], by simpa [bits01] using Own.nil _ _, Below.refl _ _⟩
  case round =>
    obtain ⟨k, hk, rfl, ao, cap, rfl, hown, hbel⟩ := hrel
    have hrr : Rd wr (.slice ao0 bs.length cap0) bs := RdV.below hr hbel
    by_cases h0 : gk = 0
    · have HO := Lib.hid hown
      have HB := Lib.hid hbel
      clear hown hbel hrr hr
      obtain rfl : k = bs.length := by omega
      go_wp2
      go_ret
      have ho := HO.out
      rw [List.take_length] at ho ⊢
      exact ⟨ao, cap, rfl, ho, HB.out⟩
    · have hlt : k < bs.length := by omega
      obtain ⟨b, off, cap', he, hcell⟩ := rdOne hrr k hlt
      simp only [Value.slice.injEq] at he
      obtain ⟨rfl, -, rfl⟩ := he
      have hnb := bs[k].toNat_lt
      have hpl : (bits01 (bits8 (bs.take k))).length ≤ 140737488355200 := by simp [bits01]; omega
      have HB := Lib.hid hbel
      have HK := Lib.hid hk
      have hsz := hbel.size
      have e1 : bits01 (bits8 (bs.take (k + 1))) = bits01 (bits8 (bs.take k)) ++ (bitsOf bs[k].toNat 8).map b01 := by
        rw [List.take_succ_eq_append_getElem hlt, bits8_append]; simp [bits01, bits8]
      have HE := Lib.hid e1
      clear hrr hr hbel hk e1
      go_wp2_with (go_at_call 16; refine (rput_any _ (by omega) 8 (by omega) 8 (by omega) w.heap.size _ _ _ hsz hpl hown).mono ?_; rintro e w1 ⟨ao1, cap1, rfl, hg⟩; have HG := Lib.hid hg; clear hg)
      go_roundg (gk - 1)
      case measure => go_light; omega
      case rel =>
        go_light
        have hg := HG.out
        rw [← HE.out] at hg
        exact ⟨k + 1, by have := HK.out; omega, by go_num, ao1, cap1, by rw [HE.out]; simp, hg.owns, HB.out.trans (hg.below hsz fun r hr => (hown.lt r hr).1)⟩

/-- The bytes that a making of Bits.Bytes has come to: those of the first k bits, then noughts. -/
def part8 (l : List Bool) (k : Nat) : List UInt8 := pack8 (l.take k) ++ List.replicate ((l.length + 7) / 8 - (pack8 (l.take k)).length) 0

theorem part8_len (l : List Bool) (k : Nat) : (part8 l k).length = (l.length + 7) / 8 := by
  simp only [part8, List.length_append, List.length_replicate, length_pack8, List.length_take]
  omega
theorem part8_zero (l : List Bool) : part8 l 0 = List.replicate ((l.length + 7) / 8) 0 := by simp [part8, pack8_nil]
theorem part8_all (l : List Bool) : part8 l l.length = pack8 l := by simp [part8, length_pack8]

theorem or_bit (a p : Nat) (ha : a < 2 ^ p) (hp : p < 8) (b : Bool) :
    (UInt8.ofNat (a * 2 ^ (8 - p))).toNat ||| ((b01 b).toNat * 2 ^ (7 - p)) % 256 = (UInt8.ofNat (a * 2 ^ (8 - p) + (b01 b).toNat * 2 ^ (7 - p))).toNat := by
  refine or_chunk a p _ _ ha (by omega) ?_
  have e : (8 : Nat) - p = (7 - p) + 1 := by omega
  rw [e, Nat.pow_succ]
  have : (b01 b).toNat ≤ 1 := by cases b <;> simp [b01]
  have h2 := Nat.two_pow_pos (7 - p)
  have := Nat.mul_le_mul_right (2 ^ (7 - p)) this
  omega

/-- One bit more. -/
theorem part8_next (l : List Bool) (k : Nat) (hk : k < l.length) :
    ∃ a p, a < 2 ^ p ∧ p = k % 8 ∧ (part8 l k)[k / 8]? = some (UInt8.ofNat (a * 2 ^ (8 - p))) ∧ part8 l (k + 1) = (part8 l k).set (k / 8) (UInt8.ofNat (a * 2 ^ (8 - p) + (b01 l[k]).toNat * 2 ^ (7 - p))) := by
  have hlen : (l.take k).length = k := by simp; omega
  have hd := drop8_len (l.take k)
  have hcl := num_lt ((l.take k).drop (8 * ((l.take k).length / 8)))
  rw [hd] at hcl
  rw [hlen] at hcl hd
  have hfull : (pack8 ((l.take k).take (8 * (k / 8)))).length = k / 8 := by
    have := take8_len (l.take k); rw [hlen] at this; rw [length_pack8, this]; omega
  have hch := pack8_chunk (l.take k) [l[k]] (by simp) (by simp; omega)
  rw [hlen] at hch
  have hnum : num [l[k]] = (b01 l[k]).toNat := by cases l[k] <;> simp [num, b01]
  have ht : l.take k ++ [l[k]] = l.take (k + 1) := by rw [List.take_succ_eq_append_getElem hk]
  rw [ht, hnum] at hch
  simp only [List.length_cons, List.length_nil, Nat.zero_add] at hch
  have e7 : 8 - k % 8 - 1 = 7 - k % 8 := by omega
  rw [e7] at hch
  refine ⟨num ((l.take k).drop (8 * (k / 8))), k % 8, hcl, rfl, ?_, ?_⟩
  · by_cases h8 : k % 8 = 0
    · have e0 : (l.take k).drop (8 * (k / 8)) = [] := List.eq_nil_of_length_eq_zero (by rw [hd]; exact h8)
      have hpl : (pack8 (l.take k)).length = k / 8 := by rw [length_pack8, hlen]; omega
      rw [e0, part8, List.getElem?_append_right (by omega), hpl, Nat.sub_self, List.getElem?_replicate, if_pos (by omega)]
      simp [num]
    · have hlast := pack8_last (l.take k) (by rw [hlen]; exact h8)
      rw [hlen] at hlast
      rw [part8, hlast, List.append_assoc, List.getElem?_append_right (by omega), hfull]
      simp
  · unfold part8
    rw [hch]
    by_cases h8 : k % 8 = 0
    · have e0 : (l.take k).drop (8 * (k / 8)) = [] := List.eq_nil_of_length_eq_zero (by rw [hd]; exact h8)
      have hpl : (pack8 (l.take k)).length = k / 8 := by rw [length_pack8, hlen]; omega
      have et : (l.take k).take (8 * (k / 8)) = l.take k := List.take_of_length_le (by rw [hlen]; omega)
      rw [et, List.set_append_right _ _ (by omega), hpl]
      have e2 : (l.length + 7) / 8 - k / 8 = ((l.length + 7) / 8 - (k / 8 + 1)) + 1 := by omega
      rw [e2, List.replicate_succ]
      simp [hpl]
    · have hlast := pack8_last (l.take k) (by rw [hlen]; exact h8)
      rw [hlen] at hlast
      rw [hlast, List.append_assoc, List.append_assoc, List.set_append_right _ _ (by omega), hfull]
      simp [hfull]

theorem part8_byte (a p : Nat) (ha : a < 2 ^ p) (hp : p < 8) (b : Bool) :
    Go.bits .or .u8 ((UInt8.ofNat (a * 2 ^ (8 - p))).toNat : Int) (((b01 b).toNat : Int) * 2 ^ (7 - p) % 256) = ((UInt8.ofNat (a * 2 ^ (8 - p) + (b01 b).toNat * 2 ^ (7 - p))).toNat : Int) := by
  have e : ((b01 b).toNat : Int) * 2 ^ (7 - p) % 256 = (((b01 b).toNat * 2 ^ (7 - p) % 256 : Nat) : Int) := by simp
  have h1 := (UInt8.ofNat (a * 2 ^ (8 - p))).toNat_lt
  rw [e, u8_or_nat _ _ (by omega) (by omega), or_bit a p ha hp b]

set_option maxHeartbeats 400000 in
theorem rbytes_any (v : Value) (l : List Bool) (w : World) (hl : l.length ≤ 140737488355328) (hr : Rd w v (bits01 l)) :
    Calls Try.prog 19 #[v] w fun e w' => ∃ ao cap, e = .returned (.slice ao (pack8 l).length cap) ∧ Own w' w.heap.size (.slice ao (pack8 l).length cap) (pack8 l) ∧ Below w.heap.size w w' := by
  obtain ⟨ao0, cap0, rfl, hlc, hcm⟩ := RdV.shape hr
  unfold maxLen at hcm
  rw [bits01_len] at hr hlc ⊢
  obtain ⟨i0, hi, hz0, hz1, hz2⟩ := info_parts infoU8
  go_enter Try.func19, Try.ntmps19
  have hL : ((l.length : Int) + 7) / 8 = (((l.length + 7) / 8 : Nat) : Int) := by omega
  have b2 : i0.bytes * ((l.length + 7) / 8) ≤ 281474976710656 := by rw [hz2]; omega
  have b3 : (l.length + 7) / 8 ≤ maxLen := by unfold maxLen; omega
  have HL := Lib.hid hL
  clear hL
  go_wp2_with (at_make; refine wpList_make_full _ rfl (.tmp 8) (.tmp 8) 30 rfl w.heap.size 5 i0 (.int .u8 0) 1 Try.underlying30 hi hz0 hz1 .i64 .i64 _ _ ((l.length + 7) / 8) rfl rfl HL.out HL.out b2 b3 (Nat.le_refl _) ?_; intro w1 hown hgrow)
  have hown' : Own w1 w.heap.size (.slice (some ⟨w.heap.size, 0, none⟩) (part8 l 0).length ((l.length + 7) / 8)) (part8 l 0) := by
    unfold Own
    rw [part8_len, part8_zero]
    have h := hown
    simp only [Value.cells, Nat.mul_one] at h
    rw [toList_madeCells_one] at h
    simpa [bV] using h
  have hbel : Below w.heap.size w w1 := (Below.refl _ _).grown hgrow (Nat.le_refl _) (by simp)
  clear hown hgrow
  rw [part8_len] at hown'
  go_wp2_with fail
  go_loopg [4, 12] l.length (fun m s4 s12 wr => ∃ k : Nat, k + m = l.length ∧ s12 = .int .i64 k ∧ Own wr w.heap.size (.slice (some ⟨w.heap.size, 0, none⟩) ((l.length + 7) / 8) ((l.length + 7) / 8)) (part8 l k) ∧ Below w.heap.size w wr)
  case atStart => exact ⟨0, by omega, rfl, hown', hbel⟩
  case round =>
    obtain ⟨k, hk, rfl, hown, hbel0⟩ := hrel
    clear hown' hbel
    by_cases h0 : gk = 0
    · have HO := Lib.hid hown
      have HB := Lib.hid hbel0
      clear hown hbel0 hr
      obtain rfl : k = l.length := by omega
      go_wp2
      go_ret
      have ho := HO.out
      have e := length_pack8 l
      rw [part8_all, ← e] at ho
      rw [← e]
      exact ⟨_, _, rfl, ho, HB.out⟩
    · have hlt : k < l.length := by omega
      have hrr : Rd wr (.slice ao0 l.length cap0) (bits01 l) := RdV.below hr hbel0
      obtain ⟨b, off, cap', he, hcell⟩ := rdOne hrr k (by rw [bits01_len]; exact hlt)
      simp only [Value.slice.injEq] at he
      obtain ⟨rfl, -, rfl⟩ := he
      have ebit : (bits01 l)[k]'(by rw [bits01_len]; exact hlt) = b01 l[k] := by simp [bits01]
      rw [ebit] at hcell
      obtain ⟨bt, hbt⟩ : ∃ bt : UInt8, bt = b01 l[k] := ⟨_, rfl⟩
      rw [← hbt] at hcell
      have hbl := bt.toNat_lt
      obtain ⟨a, p, ha, hp, hat, hnext⟩ := part8_next l k hlt
      have ho : wr.ownsRow w.heap.size 5 1 (.slice (some ⟨w.heap.size, 0, none⟩) ((l.length + 7) / 8) ((l.length + 7) / 8)) ((l.length + 7) / 8) ((part8 l k).map bV) := by
        have h := hown
        unfold Own at h
        rwa [part8_len] at h
      obtain ⟨bo, hbo⟩ : ∃ bo : UInt8, bo = UInt8.ofNat (a * 2 ^ (8 - p)) := ⟨_, rfl⟩
      have hco : wr.cell? ⟨w.heap.size, k / 8, none⟩ = some (.int .u8 (bo.toNat : Int)) := by
        rw [ho.cellAt (k / 8) (by omega), List.getElem?_map, hat, hbo]; rfl
      have hfo := ho.frozenAt (k / 8)
      have hbol := bo.toNat_lt
      have HO := Lib.hid ho
      have HB := Lib.hid hbel0
      have HK := Lib.hid hk
      have HP := Lib.hid hp
      have HA := Lib.hid ha
      have HN := Lib.hid hnext
      have H1 := Lib.hid hbt
      have H2 := Lib.hid hbo
      clear ho hown hbel0 hk hp hat hnext hbt hbo ebit hrr hr ha
      go_upto_region 5 with fail
      go_region
      go_wp2
      go_roundg (gk - 1)
      case measure => go_light; omega
      case rel =>
        go_light
        refine ⟨k + 1, by have := HK.out; omega, by go_num, ?_, ((HB.out.setCell (Nat.le_refl _) _).drew)⟩
        have hst := (HO.out.stored (k / 8) (.int .u8 (Go.bits .or .u8 (bo.toNat : Int) ((bt.toNat : Int) * 2 ^ (7 - k % 8) % 256)))).1
        unfold Own
        rw [part8_len, HN.out]
        refine World.ownsRow.drew ?_
        have hv : Value.int .u8 (Go.bits .or .u8 (bo.toNat : Int) ((bt.toNat : Int) * 2 ^ (7 - k % 8) % 256)) = bV (UInt8.ofNat (a * 2 ^ (8 - p) + (b01 l[k]).toNat * 2 ^ (7 - p))) := by
          have hp := HP.out
          rw [H1.out, H2.out, ← hp, part8_byte a p HA.out (by omega)]; rfl
        rw [hv] at hst ⊢
        rw [List.map_set]
        exact hst

theorem get_num (v : Nat) (b : Bool) (h : v * 2 + (b01 b).toNat < 18446744073709551616) : Go.bits .or .u64 (IntKind.u64.wrap ((v : Int) * 2)) ((b01 b).toNat : Int) = ((v * 2 + (b01 b).toNat : Nat) : Int) := by
  have hb : (b01 b).toNat < 2 ^ 1 := by cases b <;> simp [b01]
  have e1 : IntKind.u64.wrap ((v : Int) * 2) = ((v * 2 : Nat) : Int) := by rw [IntWalk.u64_in _ (by omega)]; omega
  rw [e1, u64_or_nat _ _ (by omega) (by omega), nat_join 1 (v * 2) _ (by omega) hb]

theorem num_snoc (l : List Bool) (b : Bool) : num (l ++ [b]) = num l * 2 + (b01 b).toNat := by
  rw [num_append]; cases b <;> simp [num, b01]

set_option maxHeartbeats 400000 in
theorem rget_any (v : Value) (l : List Bool) (n : Nat) (hn : n ≤ l.length) (h64 : n ≤ 64) (w : World) (hr : Rd w v (bits01 l)) :
    Calls Try.prog 26 #[v, .int .i64 n] w fun e w' => e = .returned (.int .u64 (num (l.take n) : Nat)) ∧ w = w' := by
  obtain ⟨ao0, cap0, rfl, hlc, hcm⟩ := RdV.shape hr
  unfold maxLen at hcm
  rw [bits01_len] at hr hlc ⊢
  go_enter Try.func26, Try.ntmps26
  go_wp2_with fail
  go_loopg [5, 6, 8] n (fun m s5 s6 s8 wr => wr = w ∧ ∃ k : Nat, k + m = n ∧ s8 = .int .i64 k ∧ s5 = .int .u64 (num (l.take k) : Nat))
  case atStart => exact ⟨rfl, 0, by omega, rfl, by simp [num]⟩
  case round =>
    obtain ⟨rfl, k, hk, rfl, rfl⟩ := hrel
    by_cases h0 : gk = 0
    · obtain rfl : k = n := by omega
      go_wp2
      go_ret
      exact ⟨rfl, rfl⟩
    · have hlt : k < l.length := by omega
      obtain ⟨b, off, cap', he, hcell⟩ := rdOne hr k (by rw [bits01_len]; exact hlt)
      simp only [Value.slice.injEq] at he
      obtain ⟨rfl, -, rfl⟩ := he
      have ebit : (bits01 l)[k]'(by rw [bits01_len]; exact hlt) = b01 l[k] := by simp [bits01]
      rw [ebit] at hcell
      obtain ⟨bt, hbt⟩ : ∃ bt : UInt8, bt = b01 l[k] := ⟨_, rfl⟩
      rw [← hbt] at hcell
      have hbl := bt.toNat_lt
      have hnx : num (l.take (k + 1)) = num (l.take k) * 2 + bt.toNat := by rw [List.take_succ_eq_append_getElem hlt, num_snoc, hbt]
      have hlt2 : num (l.take (k + 1)) < 18446744073709551616 := by
        have h1 := num_lt (l.take (k + 1))
        have h2 : (2 : Nat) ^ (l.take (k + 1)).length ≤ 2 ^ 64 := Nat.pow_le_pow_right (by omega) (by simp; omega)
        omega
      have hkn : k < n := by omega
      have HK := Lib.hid hk
      have HX := Lib.hid hnx
      have HL := Lib.hid hlt2
      have HB := Lib.hid hbt
      clear hk hnx hlt2 hbt ebit hr
      go_wp2
      go_roundg (gk - 1)
      case measure => go_light; omega
      case rel =>
        go_light
        refine ⟨rfl, k + 1, by have := HK.out; omega, by go_num, ?_⟩
        have h1 := HX.out
        have h2 := HL.out
        rw [HB.out] at h1 ⊢
        rw [h1] at h2 ⊢
        rw [get_num _ _ h2]

end Go.Proofs.Ytnocfepkjhdliaa
