/- Writer.Put's walk. -/
import Derived.Test.YtmhmmnleijadnaaRows
import Derived.Test.YtmhmmnleijadnaaMem
import Derived.Test.YtmhmmnleijadnaaPlain
import Derived.BigRegion
import Derived.Deep.LoopGhost
import Derived.Deep.DeepCutAuto
import Derived.Deep.QuietTactic
import Derived.BigQuiet
import Derived.Lib.Hide
import Derived.Deep.Light
namespace Go.Proofs.Ytmhmmnleijadnaa
open Go.RowKit

theorem infoU8 : (Try.prog.info? 5).map (fun i => (i.zero, i.size, i.bytes)) = some (some (.int .u8 0), 1, 1) := by kernel_rfl

/-- A writer of bits that lies at block blk, its bytes being the slice value sv. -/
def Wr (w : World) (blk : Nat) (sv : Value) (bits : List Bool) : Prop :=
  w.cell? ⟨blk, 0, none⟩ = some sv ∧ w.cell? ⟨blk, 1, none⟩ = some (.int .i64 (bits.length : Nat)) ∧ w.frozen? ⟨blk, 0, none⟩ = false ∧ w.frozen? ⟨blk, 1, none⟩ = false ∧
    w.ownsRow (blk + 1) 5 1 sv (pack8 bits).length ((pack8 bits).map bV)

/-- In the middle of a round: the last byte, which may be new, is not full. -/
def WrMid (w : World) (blk : Nat) (sv : Value) (bits : List Bool) : Prop :=
  w.cell? ⟨blk, 0, none⟩ = some sv ∧ w.cell? ⟨blk, 1, none⟩ = some (.int .i64 (bits.length : Nat)) ∧ w.frozen? ⟨blk, 0, none⟩ = false ∧ w.frozen? ⟨blk, 1, none⟩ = false ∧
    w.ownsRow (blk + 1) 5 1 sv (bits.length / 8 + 1) ((pack8 (bits.take (8 * (bits.length / 8))) ++ [UInt8.ofNat (num (bits.drop (8 * (bits.length / 8))) * 2 ^ (8 - bits.length % 8))]).map bV)

/-- What a call of Put may have done to the rest of memory. -/
def WrStep (w : World) (blk : Nat) (sv : Value) (w' : World) (sv' : Value) : Prop :=
  Chg (fun k => k = blk ∨ sv.ownBlock = some k) w w' ∧ ∀ k, sv'.ownBlock = some k → sv.ownBlock = some k ∨ w.heap.size ≤ k

theorem WrStep.refl (w : World) (blk : Nat) (sv : Value) : WrStep w blk sv w sv := ⟨Chg.refl _ _, fun _ h => .inl h⟩
theorem WrStep.trans {w w1 w2 : World} {blk : Nat} {sv sv1 sv2 : Value} (h : WrStep w blk sv w1 sv1) (k : WrStep w1 blk sv1 w2 sv2) : WrStep w blk sv w2 sv2 := by
  refine ⟨h.1.trans' k.1 fun i hi ht => ?_, fun r hr => ?_⟩
  · rcases ht with rfl | ht
    · exact .inl rfl
    · rcases h.2 i ht with h1 | h1
      · exact .inr h1
      · omega
  · rcases k.2 r hr with h1 | h1
    · exact h.2 r h1
    · exact .inr (Nat.le_trans h.1.size h1)

theorem wrMid_of {w : World} {blk : Nat} {sv : Value} {cur : List Bool} (hc0 : w.cell? ⟨blk, 0, none⟩ = some sv) (hc1 : w.cell? ⟨blk, 1, none⟩ = some (.int .i64 (cur.length : Nat)))
    (hf0 : w.frozen? ⟨blk, 0, none⟩ = false) (hf1 : w.frozen? ⟨blk, 1, none⟩ = false) (hown : w.ownsRow (blk + 1) 5 1 sv (pack8 cur).length ((pack8 cur).map bV)) (h8 : ¬ cur.length % 8 = 0) : WrMid w blk sv cur := by
  refine ⟨hc0, hc1, hf0, hf1, ?_⟩
  have e : (pack8 cur).length = cur.length / 8 + 1 := by rw [length_pack8]; omega
  rw [← e, ← pack8_last cur h8]
  exact hown

theorem put_new {w w1 : World} {blk : Nat} {sv v' : Value} {cur : List Bool} (hc0 : w.cell? ⟨blk, 0, none⟩ = some sv) (hc1 : w.cell? ⟨blk, 1, none⟩ = some (.int .i64 (cur.length : Nat)))
    (hf0 : w.frozen? ⟨blk, 0, none⟩ = false) (hf1 : w.frozen? ⟨blk, 1, none⟩ = false) (hown : w.ownsRow (blk + 1) 5 1 sv (pack8 cur).length ((pack8 cur).map bV)) (h8 : cur.length % 8 = 0)
    {o : Obj} (hg : Grew (w.alloc o) w1 (blk + 1) 5 1 sv v' ((pack8 cur).length + 1) ((pack8 cur).map bV ++ [.int .u8 0])) :
    w1.cell? ⟨blk, 0, none⟩ = some sv ∧ w1.cell? ⟨blk, 1, none⟩ = some (.int .i64 (cur.length : Nat)) ∧ w1.frozen? ⟨blk, 0, none⟩ = false ∧ w1.frozen? ⟨blk, 1, none⟩ = false ∧
      (WrMid (w1.setCell ⟨blk, 0, none⟩ v') blk v' cur ∧ WrStep w blk sv (w1.setCell ⟨blk, 0, none⟩ v') v') := by
  have hbl : blk < w.heap.size := World.block_lt_of_cell? w _ hc0
  obtain ⟨hown1, hgrow, hrow⟩ := hg
  have hchg : Chg (fun k => sv.ownBlock = some k) w w1 := ((Chg.refl _ w).alloc o).grown hgrow fun k _ h => h
  have hne : ∀ k, sv.ownBlock = some k → blk < k := fun k hk => (hown.lt k hk).1
  have hS : ¬ (sv.ownBlock = some blk) := fun h => by have := hne _ h; omega
  have k0 := (hchg.cell (p := ⟨blk, 0, none⟩) hbl hS).trans hc0
  have k1 := (hchg.cell (p := ⟨blk, 1, none⟩) hbl hS).trans hc1
  have g0 := (hchg.frozen (p := ⟨blk, 0, none⟩) hbl hS).trans hf0
  have g1 := (hchg.frozen (p := ⟨blk, 1, none⟩) hbl hS).trans hf1
  refine ⟨k0, k1, g0, g1, ⟨?_, ?_, ?_, ?_, ?_⟩, ?_, ?_⟩
  · simp [go_sem, k0]
  · simp [go_sem, k1]
  · simp [go_sem, g0]
  · simp [go_sem, g1]
  · have e : (pack8 cur).length = cur.length / 8 := by rw [length_pack8]; omega
    have e2 : 8 * (cur.length / 8) = cur.length := by omega
    rw [e] at hown1
    have e3 : (pack8 (cur.take (8 * (cur.length / 8))) ++ [UInt8.ofNat (num (cur.drop (8 * (cur.length / 8))) * 2 ^ (8 - cur.length % 8))]).map bV = (pack8 cur).map bV ++ [.int .u8 0] := by
      rw [e2, List.take_length, List.drop_length]; simp [num, bV]
    rw [e3]
    exact ownsRow_setCell_below hown1 (by simp) _
  · exact (hchg.mono fun i _ h => .inr h).setCell (fun _ => .inl rfl) _
  · intro k hk
    rcases hrow k hk with h | h
    · exact .inl h
    · exact .inr (by simp at h; omega)

theorem put_byte (bt : UInt8) (v sh c p a : Nat) (hv : v < 18446744073709551616) (hc : c + p ≤ 8) (hp : p ≤ 8) (ha : a < 2 ^ p) (hbt : bt = UInt8.ofNat (a * 2 ^ (8 - p))) :
    Go.bits .or .u8 (bt.toNat : Int) (IntKind.u64.wrap (Go.bits .and .u64 ((v : Int) / 2 ^ sh) (IntKind.u64.wrap (IntKind.u64.wrap (2 ^ c) - 1)) * 2 ^ (8 - p - c)) % 256) =
      ((UInt8.ofNat (a * 2 ^ (8 - p) + (v / 2 ^ sh % 2 ^ c) * 2 ^ (8 - p - c))).toNat : Int) := by
  have hc8 : (2 : Nat) ^ c ≤ 256 := by have := Nat.pow_le_pow_right (n := 2) (by omega) (show c ≤ 8 by omega); omega
  have hc1 : 1 ≤ (2 : Nat) ^ c := Nat.one_le_two_pow
  have e0 : (2 : Int) ^ c = ((2 ^ c : Nat) : Int) := by simp
  have e1 : IntKind.u64.wrap (2 ^ c) = ((2 ^ c : Nat) : Int) := by rw [e0, IntWalk.u64_in _ (by omega)]
  have e2 : IntKind.u64.wrap (((2 ^ c : Nat) : Int) - 1) = ((2 ^ c - 1 : Nat) : Int) := by rw [IntWalk.u64_in _ (by omega)]; omega
  have e3 : ((v : Int) / 2 ^ sh) = ((v / 2 ^ sh : Nat) : Int) := by simp
  have hdiv : v / 2 ^ sh < 18446744073709551616 := Nat.lt_of_le_of_lt (Nat.div_le_self _ _) hv
  rw [e1, e2, e3, u64_and_nat _ _ hdiv (by omega), Nat.and_two_pow_sub_one_eq_mod]
  have hx : v / 2 ^ sh % 2 ^ c < 2 ^ c := Nat.mod_lt _ (Nat.two_pow_pos _)
  have hm : v / 2 ^ sh % 2 ^ c * 2 ^ (8 - p - c) < 2 ^ (8 - p) := by
    have : v / 2 ^ sh % 2 ^ c * 2 ^ (8 - p - c) < 2 ^ c * 2 ^ (8 - p - c) := Nat.mul_lt_mul_of_pos_right hx (Nat.two_pow_pos _)
    rw [← Nat.pow_add, show c + (8 - p - c) = 8 - p by omega] at this
    exact this
  have h256 : (2 : Nat) ^ (8 - p) ≤ 256 := by have := Nat.pow_le_pow_right (n := 2) (by omega) (show 8 - p ≤ 8 by omega); omega
  generalize hX : v / 2 ^ sh % 2 ^ c = x at *
  have e4 : ((x : Nat) : Int) * 2 ^ (8 - p - c) = ((x * 2 ^ (8 - p - c) : Nat) : Int) := by simp
  rw [e4, IntWalk.u64_in _ (by omega)]
  have e5 : ((x * 2 ^ (8 - p - c) : Nat) : Int) % 256 = ((x * 2 ^ (8 - p - c) % 256 : Nat) : Int) := by omega
  have hbl := bt.toNat_lt
  rw [e5, u8_or_nat _ _ (by omega) (by omega), hbt, or_chunk a p x _ ha hp hm]

theorem put_step {w : World} {blk g q n cap nq : Nat} (_hgb : blk + 1 ≤ g) (u v : Value) :
    WrStep w blk (.slice (some ⟨g, 0, none⟩) n cap) (((w.drewN nq).setCell ⟨g, q, none⟩ u).setCell ⟨blk, 1, none⟩ v) (.slice (some ⟨g, 0, none⟩) n cap) := by
  refine ⟨?_, fun k h => .inl h⟩
  have h0 : Chg (fun k => k = blk ∨ (Value.slice (some ⟨g, 0, none⟩) n cap).ownBlock = some k) w (w.drewN nq) := ⟨rfl, rfl, rfl, Nat.le_refl _, fun _ _ _ => rfl⟩
  exact (h0.setCell (p := ⟨g, q, none⟩) (fun _ => .inr rfl) _).setCell (p := ⟨blk, 1, none⟩) (fun _ => .inl rfl) _

theorem put_done {w : World} {blk g cap nq N k c v : Nat} {bits cur : List Bool} (_hq : 0 < k) (hk : k ≤ N) (h1 : 1 ≤ c) (h2 : c ≤ k) (h3 : c + cur.length % 8 ≤ 8) (hcur : bits ++ bitsOf (v / 2 ^ k) (N - k) = cur)
    (hc0 : w.cell? ⟨blk, 0, none⟩ = some (.slice (some ⟨g, 0, none⟩) (cur.length / 8 + 1) cap)) (hc1 : w.cell? ⟨blk, 1, none⟩ = some (.int .i64 (cur.length : Nat)))
    (hf0 : w.frozen? ⟨blk, 0, none⟩ = false) (hf1 : w.frozen? ⟨blk, 1, none⟩ = false)
    (hown : w.ownsRow (blk + 1) 5 1 (.slice (some ⟨g, 0, none⟩) (cur.length / 8 + 1) cap) (cur.length / 8 + 1) ((pack8 (cur.take (8 * (cur.length / 8))) ++ [UInt8.ofNat (num (cur.drop (8 * (cur.length / 8))) * 2 ^ (8 - cur.length % 8))]).map bV)) :
    Wr (((w.drewN nq).setCell ⟨g, cur.length / 8, none⟩ (.int .u8 ((UInt8.ofNat (num (cur.drop (8 * (cur.length / 8))) * 2 ^ (8 - cur.length % 8) + (v / 2 ^ (k - c) % 2 ^ c) * 2 ^ (8 - cur.length % 8 - c))).toNat : Int))).setCell ⟨blk, 1, none⟩ (.int .i64 ((cur.length : Int) + (c : Int))))
      blk (.slice (some ⟨g, 0, none⟩) (cur.length / 8 + 1) cap) (bits ++ bitsOf (v / 2 ^ (k - c)) (N - (k - c))) := by
  have hgb : blk + 1 ≤ g := (hown.lt g rfl).1
  have e1 : bits ++ bitsOf (v / 2 ^ (k - c)) (N - (k - c)) = cur ++ bitsOf (v / 2 ^ (k - c)) c := by
    rw [← hcur, show N - (k - c) = (N - k) + c by omega, bitsOf_split, Nat.div_div_eq_div_mul, ← Nat.pow_add, show k - c + c = k by omega, List.append_assoc]
  have hne2 : bitsOf (v / 2 ^ (k - c)) c ≠ [] := by intro e; have := congrArg List.length e; simp at this; omega
  have hl : (pack8 (cur.take (8 * (cur.length / 8)))).length = cur.length / 8 := by rw [length_pack8, take8_len]; omega
  rw [e1]
  refine ⟨?_, ?_, ?_, ?_, ?_⟩
  · simp [go_sem, hc0]
  · simp [go_sem, hc1]
  · simp [go_sem, hf0]
  · simp [go_sem, hf1]
  · have e2 : (pack8 (cur ++ bitsOf (v / 2 ^ (k - c)) c)).length = cur.length / 8 + 1 := by rw [length_pack8]; simp; omega
    rw [e2, pack8_chunk cur _ hne2 (by simp; omega), num_bitsOf, length_bitsOf]
    refine ownsRow_setCell_below ?_ (by simp) _
    have hs := hown.stored (cur.length / 8) (.int .u8 ((UInt8.ofNat (num (cur.drop (8 * (cur.length / 8))) * 2 ^ (8 - cur.length % 8) + (v / 2 ^ (k - c) % 2 ^ c) * 2 ^ (8 - cur.length % 8 - c))).toNat : Int))
    have e3 : ∀ (a b : UInt8) (l : List UInt8), l.length = cur.length / 8 → ((l ++ [a]).map bV).set (cur.length / 8) (bV b) = (l ++ [b]).map bV := fun a b l hll => by
      simp only [List.map_append, List.map_cons, List.map_nil]
      rw [List.set_append_right _ _ (by simp [hll])]
      simp [hll]
    have e4 := e3 (UInt8.ofNat (num (cur.drop (8 * (cur.length / 8))) * 2 ^ (8 - cur.length % 8))) (UInt8.ofNat (num (cur.drop (8 * (cur.length / 8))) * 2 ^ (8 - cur.length % 8) + (v / 2 ^ (k - c) % 2 ^ c) * 2 ^ (8 - cur.length % 8 - c))) _ hl
    rw [← e4]
    exact hs.1

set_option maxHeartbeats 400000 in
theorem putMin_any (blk : Nat) (v : Nat) (n : Int) (hn : -9223372036854775808 ≤ n ∧ n ≤ 9223372036854775807) (N : Nat) (hN : (N : Int) = min n 64) (hN1 : 1 ≤ N) (sv : Value) (bits : List Bool) (w : World) 
   (hv : v < 18446744073709551616) 
   (hb : bits.length ≤ 1125899906842000)
   (hw : Wr w blk sv bits) :
    Calls Try.prog 30 #[.pointer (some ⟨blk, 0, none⟩), .int .u64 v, .int .i64 n] w fun e w' => e = .returned (.tuple #[]) ∧ 
      ∃ sv', Wr w' blk sv' (bits ++ bitsOf v N) ∧ WrStep w blk sv w' sv' := by
  have h64 : N ≤ 64 := by omega
  have HN := Lib.hid hN
  clear hN
  go_enter Try.func30, Try.ntmps30
  go_upto_region 1 with fail
  go_cut [2] (fun s2 wx => w = wx ∧ s2 = .int .i64 (N : Nat))
  case first =>
    go_wp2_with fail
    all_goals go_meet
    all_goals
      have HN' := HN.out
      go_light
      exact ⟨rfl, by congr 1; omega⟩
  case rest =>
  obtain ⟨rfl, rfl⟩ := hcut
  go_wp2
  go_loopg [2] N (fun k i wr => k ≤ N ∧ i = .int .i64 (k : Nat) ∧ ∃ sv', Wr wr blk sv' (bits ++ bitsOf (v / 2 ^ k) (N - k)) ∧ WrStep w blk sv wr sv')
  case atStart => exact ⟨Nat.le_refl _, rfl, sv, by simpa [bitsOf] using hw, WrStep.refl _ _ _⟩
  case round =>
    obtain ⟨hk, rfl, sv', hwr, hstep⟩ := hrel
    clear hw
    have hcl : (bits ++ bitsOf (v / 2 ^ gk) (N - gk)).length ≤ 1125899906842064 := by simp; omega
    generalize hcur : bits ++ bitsOf (v / 2 ^ gk) (N - gk) = cur at hwr hcl
    have HC := Lib.hid hcur
    clear hcur
    obtain ⟨hc0, hc1, hf0, hf1, hown⟩ := hwr
    by_cases h0 : gk = 0
    · subst h0
      go_wp2
      go_end0
      have e : cur = bits ++ bitsOf v N := by have := HC.out; simpa using this.symm
      subst e
      exact ⟨rfl, sv', ⟨hc0, hc1, hf0, hf1, hown⟩, hstep⟩
    · have hr1 : (0 : Int) ≤ (cur.length : Int) % 8 ∧ (cur.length : Int) % 8 < 8 := by omega
      go_upto_if 20 with fail
      go_cut [] (fun wx => ∃ sv2, WrMid wx blk sv2 cur ∧ WrStep wr blk sv' wx sv2)
      case first =>
        by_cases h8 : cur.length % 8 = 0
        · have hd : ((cur.length : Int) % 8 == 0) = true := by simp; omega
          go_wp2_with (at_builtin; refine wpList_append_rd _ rfl (.tmp 25) (.tmp 26) 47 rfl (blk + 1) 5 (.int .u8 0) 1 1 Try.underlying47 infoU8 rfl (by decide) _ _ _ rfl (hown.alloc _) (.slice (some ⟨wr.heap.size, 0, none⟩) 1 1) 1 [.int .u8 0] rfl ?hrd ?hone ?h63 ?hby ?hba ?next)
          case hrd => exact RdV.one _ _ _
          case hone => exact one_one _ rfl
          case h63 => rw [length_pack8]; unfold maxLen; omega
          case hby => rw [length_pack8]; omega
          case hba => have := World.block_lt_of_cell? wr _ hc0; simp at this ⊢; omega
          case next =>
            intro ao cap w1 hgrew
            have R := put_new hc0 hc1 hf0 hf1 hown h8 hgrew
            obtain ⟨hc0', hc1', hf0', hf1', R'⟩ := R
            have HR := Lib.hid R'
            clear R' hown hgrew hstep hc0 hc1 hf0 hf1
            go_wp2
            go_meet
            exact ⟨_, HR.out⟩
        · have hd : ((cur.length : Int) % 8 == 0) = false := by simp; omega
          go_wp2_with fail
          go_meet
          exact ⟨sv', wrMid_of hc0 hc1 hf0 hf1 hown h8, WrStep.refl _ _ _⟩
      case rest =>
        obtain ⟨sv2, hmid, hst2⟩ := hcut
        clear hc0 hc1 hf0 hf1 hown
        obtain ⟨hc0, hc1, hf0, hf1, hown⟩ := hmid
        have H1 := Lib.hid hstep
        have H2 := Lib.hid hst2
        clear hstep hst2
        go_upto_region 6 with fail
        go_cut [7] (fun s7 wx => wx = wc ∧ ∃ c : Nat, s7 = .int .i64 (c : Nat) ∧ 1 ≤ c ∧ c ≤ gk ∧ c + cur.length % 8 ≤ 8)
        case first =>
          go_wp2_with fail
          all_goals go_meet
          all_goals go_light
          · exact ⟨rfl, gk, rfl, by omega, by omega, by omega⟩
          · exact ⟨rfl, 8 - cur.length % 8, by congr 1; omega, by omega, by omega, by omega⟩
        case rest =>
          obtain ⟨rfl, c, rfl, hc1', hc2', hc3'⟩ := hcut
          obtain ⟨g, cap, rfl⟩ : ∃ g cap, sv2 = .slice (some ⟨g, 0, none⟩) (cur.length / 8 + 1) cap := by
            rcases hown.2 with ⟨_, h⟩ | ⟨g, cap, _, h, _⟩
            · omega
            · exact ⟨g, cap, h⟩
          go_upto_region 7 with fail
          go_quiet (fail)
          go_upto_region 8 with fail
          obtain ⟨bt, hbt⟩ : ∃ bt : UInt8, bt = UInt8.ofNat (num (cur.drop (8 * (cur.length / 8))) * 2 ^ (8 - cur.length % 8)) := ⟨_, rfl⟩
          have hcell : wc.cell? ⟨g, cur.length / 8, none⟩ = some (.int .u8 (bt.toNat : Int)) := by
            rw [hown.cellAt (cur.length / 8) (by omega), ← hbt]
            have : (pack8 (cur.take (8 * (cur.length / 8)))).length = cur.length / 8 := by rw [length_pack8, take8_len]; omega
            rw [List.getElem?_map, List.getElem?_append_right (by omega), this]
            simp [bV]
          have hfr := hown.frozenAt (cur.length / 8)
          have hgb : blk + 1 ≤ g := (hown.lt g rfl).1
          have HB := Lib.hid hbt
          have HO := Lib.hid hown
          clear hbt hown
          have hbl := bt.toNat_lt
          have e1 : ((cur.length / 8 + 1 : Nat) : Int) - 1 = (cur.length / 8 : Nat) := by omega
          go_region
          go_wp2
          go_roundg (gk - c)
          case measure => go_light; omega
          case rel =>
            go_light
            rw [put_byte bt v (gk - c) c (cur.length % 8) _ hv (by omega) (by omega) (by have := num_lt (cur.drop (8 * (cur.length / 8))); rwa [drop8_len] at this) HB.out]
            exact ⟨by omega, by congr 1; omega, _, put_done (by omega) hk hc1' hc2' hc3' HC.out hc0 hc1 hf0 hf1 HO.out, H1.out.trans (H2.out.trans (put_step hgb _ _))⟩
/-- So many bits as Put is told, up to 64. -/
theorem put_any (blk : Nat) (v : Nat) (N : Nat) (hN1 : 1 ≤ N) (h64 : N ≤ 64) (sv : Value) (bits : List Bool) (w : World) (hv : v < 18446744073709551616) (hb : bits.length ≤ 1125899906842000) (hw : Wr w blk sv bits) :
    Calls Try.prog 30 #[.pointer (some ⟨blk, 0, none⟩), .int .u64 v, .int .i64 N] w fun e w' => e = .returned (.tuple #[]) ∧ 
      ∃ sv', Wr w' blk sv' (bits ++ bitsOf v N) ∧ WrStep w blk sv w' sv' :=
  putMin_any blk v N (by omega) N (by omega) hN1 sv bits w hv hb hw
end Go.Proofs.Ytmhmmnleijadnaa
