/- Texts of ours, behind one another: StPlain, Far, StEnc, RStEnc, StO. No conditions but those that each states. -/
import Derived.Test.YthcgalpabjjkoaaDoorG2
import Derived.Test.YthcgalpabjjkoaaDoorG3
import Derived.Test.YthcgalpabjjkoaaDoorG1
import Derived.Test.YthcgalpabjjkoaaDoorG5
import Derived.Deep.RegionHeld3
/- XStPlain: What stamp.Encode gives, in plain words; times in memory. -/
namespace Go.Proofs.YthcgalpabjjkoaaDoor
open Go.RowKit
set_option linter.unusedVariables false

def tV (t : Int) : Value := .int .i64 t
def Tms (w : World) (v : Value) (l : List Int) : Prop := RdV w 1 v l.length (l.map tV)
theorem tm_at {w : World} {v : Value} {l : List Int} (h : Tms w v l) (i : Nat) (hi : i < l.length) :
    ∃ b off cap, v = .slice (some ⟨b, off, none⟩) l.length cap ∧ b < w.heap.size ∧ w.cell? ⟨b, off + i, none⟩ = some (.int .i64 (l.getD i 0)) := by
  obtain ⟨b, off, cap, rfl, _, _, hb, hc⟩ := RdV.some h (by omega) (by decide)
  exact ⟨b, off, cap, rfl, hb, by have := hc i (tV l[i]) (by simp [hi]); simpa [tV, hi] using this⟩

/-- The distance of two times, and what is packed of it. -/
def dAt (l : List Int) (i : Nat) : Nat := uT (l.getD (i + 1) 0 - l.getD i 0)
def pAt (l : List Int) (i : Nat) : Nat := if i = 0 then 0 else dAt l (i - 1)
def zAt (l : List Int) (i : Nat) : Nat := zigN (sI ((dAt l i : Int) - (pAt l i : Int)))
theorem dAt_lt (l : List Int) (i : Nat) : dAt l i < 18446744073709551616 := uT_lt _
theorem zAt_lt (l : List Int) (i : Nat) : zAt l i < 18446744073709551616 := zigN_lt _ (sI_ok _)
theorem upto_lt (f : Nat → Nat) (B : Nat) (h : ∀ i, f i < B) (n : Nat) : ∀ x ∈ upto f n, x < B := by
  intro x hx
  obtain ⟨i, _, rfl⟩ := List.mem_map.1 hx
  exact h i

def alF (l : List Int) (k : Nat) : Bool := decide (1 < l.length) && (List.range k).all fun i => dAt l i == dAt l 0
theorem alF_zero (l : List Int) : alF l 0 = decide (1 < l.length) := by simp [alF]
theorem alF_next (l : List Int) (k : Nat) : alF l (k + 1) = (alF l k && (dAt l k == dAt l 0)) := by
  unfold alF
  rw [List.range_succ, List.all_append, Bool.and_assoc]
  simp
def risF (l : List Int) (k : Nat) : Bool := (List.range k).all fun i => decide (l.getD i 0 < l.getD (i + 1) 0)
theorem risF_next (l : List Int) (k : Nat) : risF l (k + 1) = (risF l k && decide (l.getD k 0 < l.getD (k + 1) 0)) := by
  unfold risF
  rw [List.range_succ, List.all_append]
  simp
theorem risF_false {l : List Int} {k n : Nat} (hk : k < n) (h : ¬ l.getD k 0 < l.getD (k + 1) 0) : risF l n = false := by
  unfold risF
  rw [List.all_eq_false]
  exact ⟨k, by simp [hk], by simpa using h⟩

def hdS (m : UInt8) (l : List Int) : List UInt8 := m :: (beN 2 l.length ++ be8 (uT (l.getD 0 0)))
def plS (l : List Int) (k : Nat) : List UInt8 := (upto (fun i => be8 (uT (l.getD (i + 1) 0))) k).flatten
theorem plS_zero (l : List Int) : plS l 0 = [] := rfl
theorem plS_next (l : List Int) (k : Nat) : plS l (k + 1) = plS l k ++ be8 (uT (l.getD (k + 1) 0)) := by
  unfold plS
  rw [upto_next, List.flatten_append]
  simp
theorem plS_len (l : List Int) (k : Nat) : (plS l k).length = 8 * k := by
  induction k with
  | zero => rfl
  | succ k ih => rw [plS_next, List.length_append, ih, be8_len]; omega
theorem hdS_len (m : UInt8) (l : List Int) : (hdS m l).length = 11 := by simp [hdS, beN_len, be8_len]

def encB (l : List Int) : List UInt8 :=
  if alF l (l.length - 1) = true then hdS 1 l ++ be8 (dAt l 0) else
    match pkA (upto (zAt l) (l.length - 1)) with
    | none => hdS 0 l ++ plS l (l.length - 1)
    | some p => if 1 < l.length then hdS 2 l ++ p else hdS 0 l ++ plS l (l.length - 1)
/-- What Encode gives; none: refused. -/
def encS (l : List Int) : Option (List UInt8) := if l.length = 0 ∨ 1000 < l.length ∨ risF l (l.length - 1) = false then none else some (encB l)

theorem encS_none {l : List Int} (h : l.length = 0 ∨ 1000 < l.length ∨ risF l (l.length - 1) = false) : encS l = none := by unfold encS; rw [if_pos h]
theorem encS_some {l : List Int} (h1 : l.length ≠ 0) (h2 : l.length ≤ 1000) (h3 : risF l (l.length - 1) = true) : encS l = some (encB l) := by
  unfold encS
  rw [if_neg]
  rintro (h | h | h)
  · exact h1 h
  · omega
  · rw [h3] at h; cases h
theorem encB_al {l : List Int} (h : alF l (l.length - 1) = true) : encB l = hdS 1 l ++ be8 (dAt l 0) := by unfold encB; rw [if_pos h]
theorem encB_pk {l : List Int} {p : List UInt8} (h : alF l (l.length - 1) = false) (h1 : 1 < l.length) (hp : pkA (upto (zAt l) (l.length - 1)) = some p) : encB l = hdS 2 l ++ p := by
  unfold encB
  rw [if_neg (by rw [h]; simp), hp]
  simp [h1]
theorem encB_pl {l : List Int} (h : alF l (l.length - 1) = false) (h1 : pkA (upto (zAt l) (l.length - 1)) = none ∨ ¬ 1 < l.length) : encB l = hdS 0 l ++ plS l (l.length - 1) := by
  unfold encB
  rw [if_neg (by rw [h]; simp)]
  rcases h1 with h1 | h1
  · rw [h1]
  · cases hp : pkA (upto (zAt l) (l.length - 1)) with
    | none => rfl
    | some p => simp [h1]

/-- What an Encode ends with. -/
def StEnd (l : List Int) (w : World) (e : Ending) (w' : World) : Prop :=
  Below w.heap.size w w' ∧ ((encS l = none ∧ e = .returned (.tuple #[.slice none 0 0, .int .i64 1])) ∨ ∃ bs ao cap, encS l = some bs ∧ bs.length ≤ 9000 ∧ 11 ≤ bs.length ∧ e = .returned (.tuple #[.slice ao bs.length cap, .int .i64 0]) ∧ Own w' w.heap.size (.slice ao bs.length cap) bs)
end Go.Proofs.YthcgalpabjjkoaaDoor

/- XFar: stamp.far: the distances of times. -/
namespace Go.Proofs.YthcgalpabjjkoaaDoor
open Go.RowKit
set_option linter.unusedVariables false

theorem infoI64 : (Tryd.prog.info? 2).map (fun i => (i.zero, i.size, i.bytes)) = some (some (.int .i64 0), 1, 8) := by kernel_rfl

theorem Tms.tail {w : World} {ao' : Option Addr} {cap' : Nat} {l : List Int} (h : RdV w 1 (.slice ao' (l.length - 1) cap') (l.length - 1) (List.take (l.length - 1) (l.map tV).tail)) : Tms w (.slice ao' (l.length - 1) cap') (l.drop 1) := by
  unfold Tms
  have e : (l.drop 1).length = l.length - 1 := by simp
  have e2 : List.take (l.length - 1) (l.map tV).tail = (l.drop 1).map tV := by rw [List.take_of_length_le (by simp)]; simp
  rw [e2] at h
  rw [e]
  exact h
theorem dropD (l : List Int) (k : Nat) : (l.drop 1).getD k 0 = l.getD (k + 1) 0 := by simp [List.getD_eq_getElem?_getD]

set_option maxHeartbeats 1000000 in
theorem far_any (l : List Int) (v : Value) (w : World) (h1 : l.length ≠ 0) (hl : l.length ≤ 1000) (hr : Tms w v l) :
    Calls Tryd.prog 54 #[v] w fun e w' => ∃ ao cap, e = .returned (.slice ao (l.length - 1) cap) ∧ OwnN w' w.heap.size (.slice ao (l.length - 1) cap) (upto (dAt l) (l.length - 1)) ∧ Below w.heap.size w w' := by
  obtain ⟨ao0, cap0, rfl, hnc, hcm⟩ := RdV.shape hr
  unfold maxLen at hcm
  have HR := Lib.hid hr
  have hb1 : 1 ≤ l.length := by omega
  have hrr : RdV w 1 (.slice ao0 l.length cap0) l.length (l.map tV) := hr
  clear hr
  go_enter Tryd.func54, Tryd.ntmps54
  go_wp2_with (with_reducible refine wpList_slice_at w w rfl (.tmp 6) (some (.const (.int .i64 1))) none 76 rfl 2 1 (.int .i64 0) 8 Tryd.underlying76 infoI64 _ _ _ _ rfl hrr 1 l.length ?hb hb1 (Nat.le_refl _) ?hk)
  case hb => exact bounds_lo _ _ .i64 1 hb1
  case hk =>
  intro ao1 cap1 hr1 _
  have HT := Lib.hid (Tms.tail hr1)
  obtain ⟨n, hn⟩ : ∃ n, n = l.length - 1 := ⟨_, rfl⟩
  rw [← hn] at HT ⊢
  have HN := Lib.hid hn
  have hn1 : n ≤ 999 := by omega
  have HDL : Hid ((l.drop 1).length = n) := Lib.hid (by rw [List.length_drop, hn])
  clear hr1 hrr hn
  go_wp2_with fail
  go_loopg [3, 9] n (fun m s3 s9 wr => ∃ (k : Nat) (ao : Option Addr) (cap : Nat), k + m = n ∧ s9 = .int .i64 (k : Int) ∧ s3 = .slice ao k cap ∧ Hid (OwnN wr w.heap.size (.slice ao k cap) (upto (dAt l) k)) ∧ Hid (Below w.heap.size w wr))
  case atStart => exact ⟨0, none, 0, by omega, rfl, rfl, Lib.hid (World.ownsRow_nil _ _ _ _), Lib.hid (Below.refl _ _)⟩
  case round =>
    obtain ⟨k, ao, cap, hk, rfl, rfl, HO, HB⟩ := hrel
    by_cases h0 : gk = 0
    · obtain rfl : k = n := by omega
      go_wp2_with fail
      go_ret
      rw [← HN.out]
      exact ⟨ao, cap, rfl, HO.out, HB.out⟩
    · have hkn : k < n := by omega
      obtain ⟨b, off, bcap, he, hb, hc⟩ := tm_at HR.out k (by have := HN.out; omega)
      obtain ⟨b2, off2, bcap2, he2, hb2, hc2⟩ := tm_at HT.out k (by rw [HDL.out]; exact hkn)
      simp only [Value.slice.injEq, true_and] at he he2
      obtain ⟨rfl, rfl⟩ := he
      obtain ⟨rfl, h9, rfl⟩ := he2
      clear h9
      have hd1 : wr.cell? ⟨b, off + k, none⟩ = some (.int .i64 (l.getD k 0)) := (HB.out.cell (p := ⟨b, off + k, none⟩) hb).trans hc
      have hd2 : wr.cell? ⟨b2, off2 + k, none⟩ = some (.int .i64 (l.getD (k + 1) 0)) := by
        rw [← dropD]; exact (HB.out.cell (p := ⟨b2, off2 + k, none⟩) hb2).trans hc2
      have hX : IntKind.u64.wrap (IntKind.u64.wrap (l.getD (k + 1) 0) - IntKind.u64.wrap (l.getD k 0)) = ((dAt l k : Nat) : Int) := by
        rw [u64_wrap (l.getD (k + 1) 0), u64_wrap (l.getD k 0), u64_wrap, uT_sub]; rfl
      have hnx := Lib.hid (upto_next (dAt l) k)
      have HKL : k < l.length := by have := HN.out; omega
      clear hc hc2 hb hb2
      generalize l.getD (k + 1) 0 = x at *
      generalize l.getD k 0 = y at *
      generalize dAt l k = D at *
      have hul : (upto (dAt l) k).length = k := upto_len _ _
      have hO1 : Hid (wr.ownsRow w.heap.size 25 1 (.slice ao k cap) k ((upto (dAt l) k).map uV)) := Lib.hid (by have := HO.out; unfold OwnN at this; rwa [hul] at this)
      have h63 : Hid (k + 1 ≤ maxLen) := Lib.hid (by unfold maxLen; omega)
      have hby : Hid ((k + 1) * 8 ≤ 140737488355328) := Lib.hid (by omega)
      have hba : Hid (∀ o, w.heap.size ≤ (wr.alloc o).heap.size) := Lib.hid (fun o => by have h6 := HB.out.size; have e2 : (wr.alloc o).heap.size = wr.heap.size + 1 := (by simp); omega)
      clear hul HO
      go_wp2_with (at_builtin; refine wpList_append_rd _ rfl (.tmp 14) (.tmp 23) 101 rfl w.heap.size 25 (.int .u64 0) 1 8 Tryd.underlying101 infoU64 rfl (by decide) (.slice ao k cap) k ((upto (dAt l) k).map uV) rfl (World.ownsRow.alloc hO1.out _) (.slice (some ⟨wr.heap.size, 0, none⟩) 1 1) 1 [uV D] rfl (RdV.one wr _ 25) (one_one _ rfl) h63.out hby.out (hba.out _) ?_; intro ao6 cap6 w6 hg6; have HG := Lib.hid hg6.ofAlloc; clear hg6)
      go_roundg (gk - 1)
      case measure => go_light; omega
      case rel =>
        go_light
        refine ⟨k + 1, ao6, cap6, by omega, by go_num, rfl, Lib.hid ?_, Lib.hid (HB.out.trans (HG.out.below HB.out.size (fun j hj => (World.ownsRow.lt hO1.out j hj).1)))⟩
        unfold OwnN
        rw [upto_len, hnx.out, List.map_append]
        exact HG.out.owns
end Go.Proofs.YthcgalpabjjkoaaDoor

/- XStEnc: stamp.Encode. -/
namespace Go.Proofs.YthcgalpabjjkoaaDoor
open Go.RowKit
set_option linter.unusedVariables false

theorem beq_nat (a b : Nat) : (((a : Int) == (b : Int)) : Bool) = (a == b) := by
  rw [Bool.eq_iff_iff, beq_iff_eq, beq_iff_eq]
  omega

set_option maxHeartbeats 2000000 in
set_option maxRecDepth 100000 in
theorem encode_any (l : List Int) (v : Value) (w : World) (hok : ∀ t ∈ l, i64ok t) (hr : Tms w v l) :
    Calls Tryd.prog 36 #[v] w fun e w' => StEnd l w e w' := by
  obtain ⟨ao0, cap0, rfl, hnc, hcm⟩ := RdV.shape hr
  unfold maxLen at hcm
  by_cases hlen : l.length = 0 ∨ 1000 < l.length
  · have HE := Lib.hid (encS_none (l := l) (by rcases hlen with h | h; exact .inl h; exact .inr (.inl h)))
    go_enter Tryd.func36, Tryd.ntmps36
    rcases hlen with h | h
    · go_wp2_with fail
      go_ret2
      exact ⟨Below.refl _ _, .inl ⟨HE.out, by go_light; rfl⟩⟩
    · have hz : ((l.length : Int) == 0) = false := decide_eq_false (by omega)
      have hz2 : (1000 : Int) < (l.length : Int) := by omega
      go_wp2_with fail
      go_ret2
      exact ⟨Below.refl _ _, .inl ⟨HE.out, by go_light; rfl⟩⟩
  · have hl0 : l.length ≠ 0 := by omega
    have hl1 : l.length ≤ 1000 := by omega
    have hb1 : 1 ≤ l.length := by omega
    have hz : ((l.length : Int) == 0) = false := decide_eq_false (by omega)
    have hrr : RdV w 1 (.slice ao0 l.length cap0) l.length (l.map tV) := hr
    have HR := Lib.hid hr
    have HOK := Lib.hid hok
    clear hr hlen hok
    go_enter Tryd.func36, Tryd.ntmps36
    go_wp2_with (with_reducible refine wpList_slice_at w w rfl (.tmp 25) (some (.const (.int .i64 1))) none 76 rfl 2 1 (.int .i64 0) 8 Tryd.underlying76 infoI64 _ _ _ _ rfl hrr 1 l.length ?hb hb1 (Nat.le_refl _) ?hk)
    case hb => exact bounds_lo _ _ .i64 1 hb1
    case hk =>
    intro ao1 cap1 hr1 _
    have HT := Lib.hid (Tms.tail hr1)
    obtain ⟨n, hn⟩ : ∃ n, n = l.length - 1 := ⟨_, rfl⟩
    rw [← hn] at HT ⊢
    have HN := Lib.hid hn
    have hn1 : n ≤ 999 := by omega
    have HDL : Hid ((l.drop 1).length = n) := Lib.hid (by rw [List.length_drop, hn])
    clear hr1 hn
    go_wp2_with fail
    go_loopg [28] n (fun m s28 wr => ∃ (k : Nat), k + m = n ∧ s28 = .int .i64 (k : Int) ∧ Hid (risF l k = true) ∧ wr = w)
    case atStart => exact ⟨0, by omega, rfl, Lib.hid rfl, rfl⟩
    case round =>
      obtain ⟨k, hk, rfl, HRI, rfl⟩ := hrel
      by_cases h0 : gk = 0
      · obtain rfl : k = n := by omega
        clear hk
        have hfar := far_any l _ wr hl0 hl1 HR.out
        rw [← HN.out] at hfar
        go_wp2_with (go_at_call 54; refine hfar.mono ?_; rintro _ w2 ⟨fo, fc, rfl, hfo, hfb⟩; have HF := Lib.hid hfo; have HFB := Lib.hid hfb; clear hfo hfb hfar)
        obtain ⟨n, hnk⟩ : ∃ n, n = k := ⟨_, rfl⟩
        subst hnk
        have HFN := Lib.hid (show Nums w2 (.slice fo n fc) (upto (dAt l) n) from by have := HF.out.nums; exact this)
        have HUL : Hid ((upto (dAt l) n).length = n) := Lib.hid (upto_len _ _)
        clear HF
        go_loopg [7, 8, 9, 47] n (fun m s7 s8 s9 s47 wr => ∃ (i : Nat) (zo : Option Addr) (zc : Nat), i + m = n ∧ s47 = .int .i64 (i : Int) ∧ s7 = .bool (alF l i) ∧ s8 = .int .u64 ((pAt l i : Nat) : Int) ∧ s9 = .slice zo i zc ∧ Hid (OwnN wr w2.heap.size (.slice zo i zc) (upto (zAt l) i)) ∧ Hid (Below w2.heap.size w2 wr))
        case atStart => exact ⟨0, none, 0, by omega, rfl, by rw [alF_zero]; congr 1; exact decide_eq_decide.2 (by have := HN.out; omega), rfl, rfl, Lib.hid (World.ownsRow_nil _ _ _ _), Lib.hid (Below.refl _ _)⟩
        case round =>
          obtain ⟨i, zo, zc, hi, rfl, rfl, rfl, rfl, HZ, HB⟩ := hrel
          by_cases h1 : gk = 0
          · obtain rfl : i = n := by omega
            clear hi
            have HBw := Lib.hid (HFB.out.trans (HB.out.mono HFB.out.size))
            have HZN := Lib.hid (show Nums wr (.slice zo i zc) (upto (zAt l) i) from by have := HZ.out.nums; unfold Nums at this; rw [upto_len] at this; unfold Nums; rw [upto_len]; exact this)
            have HFN2 := Lib.hid (show Nums wr (.slice fo i fc) (upto (dAt l) i) from RdV.below HFN.out HB.out)
            have hlI : IntKind.u64.wrap (l.length : Int) = (l.length : Int) := IntWalk.u64_in _ (by omega)
            have hT2 := tailn_any l.length 2 (by decide) (by decide) (by omega) (wr.alloc (.cells #[.int .u8 0] 5))
            have hT8 := fun w => tailn_any (uT (l.getD 0 0)) 8 (by decide) (by decide) (uT_lt _) w
            have hu0 := u64_wrap (l.getD 0 0)
            have hO0 : Hid (Own (wr.alloc (.cells #[.int .u8 0] 5)) wr.heap.size (.slice (some ⟨wr.heap.size, 0, none⟩) 1 1) [0]) := Lib.hid (World.ownsRow_lit wr #[.int .u8 0] 1 (Nat.le_refl _) (by decide) rfl)
            obtain ⟨b0, off0, bcap0, he0, hbb0, hc0⟩ := tm_at (RdV.below HR.out HBw.out) 0 (by omega)
            simp only [Value.slice.injEq, true_and] at he0
            obtain ⟨rfl, rfl⟩ := he0
            rw [Nat.add_zero] at hc0
            have HB0 := Lib.hid ((Below.refl wr.heap.size wr).alloc (Nat.le_refl _) (.cells #[.int .u8 0] 5))
            have HHD : Hid ([0] ++ beN 2 l.length ++ beN 8 (uT (l.getD 0 0)) = hdS 0 l) := Lib.hid (by simp [hdS, beN_8])
            have hL2 := Lib.hid (beN_len 2 l.length)
            have hL8 := Lib.hid (beN_len 8 (uT (l.getD 0 0)))
            clear HB HFN HFB HZ
            generalize beN 2 l.length = T2 at *
            generalize beN 8 (uT (l.getD 0 0)) = T8 at *
            generalize uT (l.getD 0 0) = U0 at *
            generalize l.getD 0 0 = t0 at *
            obtain ⟨H1, hH1⟩ : ∃ H1, H1 = [0] ++ T2 := ⟨_, rfl⟩
            have HH1 : Hid (H1.length = 3) := Lib.hid (by rw [hH1]; simp [hL2.out])
            rw [← hH1] at HHD
            have HHE := Lib.hid hH1
            clear hH1
            go_upto_region 21 with (first
              | (go_at_call 33; refine hT2.mono ?_; rintro _ w4 ⟨to4, tc4, rfl, ho4, hb4⟩; have HO4 := Lib.hid ho4; have HB4 := Lib.hid (HB0.out.trans (hb4.mono HB0.out.size)); have HO5 := Lib.hid ((Chg.ofBelowAny (S := fun _ => False) hb4).owns hO0.out (fun _ _ h => h)); clear ho4 hb4 hT2)
              | (at_builtin; refine wpList_append_bs _ rfl (.tmp 69) (.tmp 73) rfl wr.heap.size (.slice (some ⟨wr.heap.size, 0, none⟩) 1 1) [0] rfl HO5.out (.slice to4 T2.length tc4) T2 rfl HO4.out.rd (by simp [hL2.out]) HB4.out.size ?_; intro ao6 cap6 w6 hg6; rw [← HHE.out] at hg6 ⊢; have HO6 := Lib.hid hg6.owns; have HB6 := Lib.hid (HB4.out.trans (hg6.below HB4.out.size (fun j hj => (World.ownsRow.lt HO5.out j hj).1))); clear hg6 HO4 HO5 HB4))
            have hcw6 : w6.cell? ⟨b0, off0, none⟩ = some (.int .i64 t0) := (HB6.out.cell (p := ⟨b0, off0, none⟩) hbb0).trans hc0
            go_upto_region 22 with (first
              | (go_at_call 33; refine (hT8 _).mono ?_; rintro _ w7 ⟨to7, tc7, rfl, ho7, hb7⟩; have HO7 := Lib.hid ho7; have HO8 := Lib.hid ((Chg.ofBelowAny (S := fun _ => False) hb7).owns HO6.out (fun _ _ h => h)); have HB7 := Lib.hid (HB6.out.trans (hb7.mono HB6.out.size)); clear ho7 hb7 HO6)
              | (at_builtin; refine wpList_append_bs _ rfl (.tmp 75) (.tmp 80) rfl wr.heap.size (.slice ao6 H1.length cap6) H1 rfl HO8.out (.slice to7 T8.length tc7) T8 rfl HO7.out.rd (by rw [HH1.out, hL8.out]; decide) HB7.out.size ?_; intro ao9 cap9 w9 hg9; rw [HHD.out] at hg9 ⊢; have HO9 := Lib.hid hg9.owns; have HB9 := Lib.hid (HB7.out.trans (hg9.below HB7.out.size (fun j hj => (World.ownsRow.lt HO8.out j hj).1))); clear hg9 HO7 HO8 HB7))
            clear HHD hT8 hu0 hc0 hcw6 hlI HHE HH1 hL2 hL8 hO0 HB0 HB6
            have hhd := hdS_len 0 l
            have HHL := Lib.hid hhd
            obtain ⟨hr0, hhe⟩ : ∃ r, hdS 0 l = 0 :: r := ⟨_, rfl⟩
            have hhe1 : hdS 1 l = 1 :: hr0 := by unfold hdS at hhe ⊢; simp only [List.cons.injEq, true_and] at hhe; rw [hhe]
            have hhe2 : hdS 2 l = 2 :: hr0 := by unfold hdS at hhe ⊢; simp only [List.cons.injEq, true_and] at hhe; rw [hhe]
            obtain ⟨g, rfl, hgb, hgc, hgf, hput⟩ := own_put0 (x := 0) (r := hr0) (by rw [← hhe]; exact HO9.out)
            have HBx := Lib.hid (HBw.out.trans (HB9.out.mono HBw.out.size))
            have HH0 := Lib.hid hhe
            have HH2 := Lib.hid hhe1
            have HH3 := Lib.hid hhe2
            have HPUT := Lib.hid hput
            clear hhd hhe hhe1 hhe2 hput
            have hpos : 0 < (hdS 0 l).length := by rw [hdS_len]; decide
            cases hal : alF l i with
            | true =>
              have hi1 : 0 < i := by
                unfold alF at hal
                rw [Bool.and_eq_true, decide_eq_true_eq] at hal
                have := HN.out
                omega
              have HENC := Lib.hid (encB_al (by rw [← HN.out]; exact hal))
              have HES := Lib.hid (encS_some hl0 hl1 (by rw [← HN.out]; exact HRI.out))
              obtain ⟨b2, off2, bcap2, he2, hbb2, hc2⟩ := num_at HFN2.out 0 (by rw [upto_len]; exact hi1)
              rw [upto_getD _ _ _ hi1, Nat.add_zero] at hc2
              rw [upto_len] at he2
              simp only [Value.slice.injEq, true_and] at he2
              obtain ⟨rfl, rfl⟩ := he2
              clear hal
              have HP1 : Hid (Own (w9.setCell ⟨g, 0, none⟩ (.int .u8 1)) wr.heap.size (.slice (some ⟨g, 0, none⟩) (hdS 0 l).length cap9) (hdS 1 l)) := Lib.hid (by rw [HH2.out]; exact HPUT.out 1)
              have HB10 := Lib.hid (HB9.out.setCell (p := ⟨g, 0, none⟩) hgb (.int .u8 1))
              have hcD : (w9.setCell ⟨g, 0, none⟩ (.int .u8 1)).cell? ⟨b2, off2, none⟩ = some (.int .u64 ((dAt l 0 : Nat) : Int)) := (HB10.out.cell (p := ⟨b2, off2, none⟩) hbb2).trans hc2
              have hTd := fun w => tailn_any (dAt l 0) 8 (by decide) (by decide) (dAt_lt _ _) w
              rw [beN_8] at hTd
              have hsum : Hid ((hdS 1 l).length + (be8 (dAt l 0)).length ≤ 140737488355328) := Lib.hid (by rw [hdS_len, be8_len]; decide)
              have hfin : Hid ((encB l).length = 19) := Lib.hid (by rw [HENC.out, List.length_append, hdS_len, be8_len])
              generalize dAt l 0 = D0 at *
              go_upto_region 24 with fail
              generalize w9.setCell ⟨g, 0, none⟩ (.int .u8 1) = w10 at *
              clear HO9 HPUT HB9
              go_wp2_with (first
                | (go_at_call 33; refine (hTd _).mono ?_; rintro _ w11 ⟨to7, tc7, rfl, ho7, hb7⟩; have HO7 := Lib.hid ho7; have HO8 := Lib.hid ((Chg.ofBelowAny (S := fun _ => False) hb7).owns HP1.out (fun _ _ h => h)); have HB7 := Lib.hid (HB10.out.trans (hb7.mono HB10.out.size)); clear ho7 hb7 HP1)
                | (at_builtin; refine wpList_append_bs _ rfl (.tmp 85) (.tmp 89) rfl wr.heap.size (.slice (some ⟨g, 0, none⟩) (hdS 0 l).length cap9) (hdS 1 l) rfl HO8.out (.slice to7 (be8 D0).length tc7) (be8 D0) rfl HO7.out.rd hsum.out HB7.out.size ?_; intro ao9 cap9 w12 hg9; rw [← HENC.out] at hg9 ⊢; have HO12 := Lib.hid hg9.owns; have HB12 := Lib.hid (HB7.out.trans (hg9.below HB7.out.size (fun j hj => (World.ownsRow.lt HO8.out j hj).1))); clear hg9 HO7 HO8 HB7))
              go_ret2
              exact ⟨HBw.out.trans (HB12.out.mono HBw.out.size), .inr ⟨encB l, ao9, cap9, HES.out, by rw [hfin.out]; decide, by rw [hfin.out]; decide, by go_light; rfl, ownsRow_mono HO12.out HBw.out.size⟩⟩
            | false =>
              have HES := Lib.hid (encS_some hl0 hl1 (by rw [← HN.out]; exact HRI.out))
              have HAL : Hid (alF l (l.length - 1) = false) := Lib.hid (by rw [← HN.out]; exact hal)
              have HPK := pack_any (upto (zAt l) i) _ w9 (by rw [upto_len]; omega) (upto_lt _ _ (zAt_lt l) _) (RdV.below HZN.out HB9.out)
              obtain ⟨pm, hpm⟩ : ∃ pm, pm = pkO (upto (zAt l) i) := ⟨_, rfl⟩
              have HPM := Lib.hid hpm
              clear hal hpm
              go_upto_region 26 with (go_at_call 56; refine HPK.mono ?_; intro e w10 h; obtain ⟨hb10, po, pc, rfl, hr10, hl10⟩ := pkO_one h; rw [← HPM.out] at hr10 hl10 ⊢; have HR10 := Lib.hid hr10; have hg9 := (World.ownsRow.lt HO9.out g rfl).2; have HL10 := Lib.hid (show pm.1.length ≤ 8000 by rw [upto_len] at hl10; omega); have HO10 := Lib.hid ((Chg.ofBelowAny (S := fun _ => False) hb10).owns HO9.out (fun _ _ h => h)); have HB10 := Lib.hid (HB9.out.trans (hb10.mono HB9.out.size)); clear h hb10 hr10 hl10 HPK)
              obtain ⟨p, m⟩ := pm
              dsimp only at *
              clear HO9 HPUT hgb hgc hgf HBx HB9
              by_cases hX : m = 0 ∧ 0 < i
              · obtain ⟨rfl, hi0⟩ := hX
                have HENC : Hid (encB l = hdS 2 l ++ p) := Lib.hid (by
                  rcases pkO_ok HPM.out with ⟨_, hp⟩ | ⟨h, _⟩
                  · exact encB_pk HAL.out (by have := HN.out; omega) (by rw [← HN.out]; exact hp)
                  · cases h)
                obtain ⟨g2, hg2, hgb, hgc, hgf, hput⟩ := own_put0 (x := 0) (r := hr0) (by rw [← HH0.out]; exact HO10.out)
                simp only [Option.some.injEq, Addr.mk.injEq, and_true] at hg2
                subst hg2
                have HP1 : Hid (Own (w10.setCell ⟨g, 0, none⟩ (.int .u8 2)) wr.heap.size (.slice (some ⟨g, 0, none⟩) (hdS 0 l).length cap9) (hdS 2 l)) := Lib.hid (by rw [HH3.out]; exact hput 2)
                have HB11 := Lib.hid (HB10.out.setCell (p := ⟨g, 0, none⟩) hgb (.int .u8 2))
                have hsum : Hid ((hdS 2 l).length + p.length ≤ 140737488355328) := Lib.hid (by rw [hdS_len]; have := HL10.out; omega)
                have hfin : Hid ((encB l).length = 11 + p.length) := Lib.hid (by rw [HENC.out, List.length_append, hdS_len])
                clear hput
                go_upto_region 28 with fail
                have HR11 : Hid (Rd (w10.setCell ⟨g, 0, none⟩ (.int .u8 2)) (.slice po p.length pc) p) := Lib.hid (own_past HR10.out hg9).rd
                generalize w10.setCell ⟨g, 0, none⟩ (.int .u8 2) = w11 at *
                go_wp2_with (at_builtin; refine wpList_append_bs _ rfl (.tmp 105) (.tmp 106) rfl wr.heap.size (.slice (some ⟨g, 0, none⟩) (hdS 0 l).length cap9) (hdS 2 l) rfl HP1.out (.slice po p.length pc) p rfl HR11.out hsum.out HB11.out.size ?_; intro ao9 cap9 w12 hg9; rw [← HENC.out] at hg9 ⊢; have HO12 := Lib.hid hg9.owns; have HB12 := Lib.hid (HB11.out.trans (hg9.below HB11.out.size (fun j hj => (World.ownsRow.lt HP1.out j hj).1))); clear hg9)
                go_ret2
                exact ⟨HBw.out.trans (HB12.out.mono HBw.out.size), .inr ⟨encB l, ao9, cap9, HES.out, by rw [hfin.out]; have := HL10.out; omega, by rw [hfin.out]; omega, by go_light; rfl, ownsRow_mono HO12.out HBw.out.size⟩⟩
              · have HENC : Hid (encB l = hdS 0 l ++ plS l i) := Lib.hid (by
                  have := HN.out
                  rw [encB_pl HAL.out (by
                    rcases pkO_ok HPM.out with ⟨h, hp⟩ | ⟨h, hp⟩
                    · right; intro h1; exact hX ⟨h, by omega⟩
                    · left; rw [← HN.out]; exact hp), ← HN.out])
                go_cut [102] (fun s102 wx => s102 = .bool false ∧ wx = w10)
                case first =>
                  by_cases hm : m = 0
                  · subst hm
                    have hi0 : ¬ (0 : Int) < (i : Int) := fun h => hX ⟨rfl, by omega⟩
                    go_wp2_with fail
                    all_goals go_meet
                    all_goals go_light
                    all_goals exact ⟨by congr 1; exact decide_eq_false (by omega), rfl⟩
                  · have hmI : ((m : Int) == 0) = false := decide_eq_false (by omega)
                    go_wp2_with fail
                    all_goals go_meet
                    all_goals go_light
                    all_goals exact ⟨rfl, rfl⟩
                case rest =>
                obtain ⟨rfl, rfl⟩ := hcut
                generalize wr = wo at *
                have hrr2 : RdV wo 1 (.slice (some ⟨b0, off0, none⟩) l.length cap0) l.length (l.map tV) := RdV.below hrr HBw.out
                clear hX HPM HL10 HR10 hg9
                go_wp2_with (with_reducible refine wpList_slice_at wo wc rfl (.tmp 108) (some (.const (.int .i64 1))) none 76 rfl 2 1 (.int .i64 0) 8 Tryd.underlying76 infoI64 _ _ _ _ rfl hrr2 1 l.length ?hb hb1 (Nat.le_refl _) ?hk)
                case hb => exact bounds_lo _ _ .i64 1 hb1
                case hk =>
                intro ao5 cap5 hr5 _
                have HT5 := Lib.hid (Tms.tail hr5)
                rw [← HN.out] at HT5 ⊢
                clear hr5 hrr2
                go_wp2_with fail
                go_loopg [12, 111] i (fun m s12 s111 wr2 => ∃ (k : Nat) (cs : List UInt8) (co : Option Addr) (cc : Nat), k + m = i ∧ s111 = .int .i64 (k : Int) ∧ s12 = .slice co cs.length cc ∧ Hid (cs = hdS 0 l ++ plS l k) ∧ Hid (Own wr2 wo.heap.size (.slice co cs.length cc) cs) ∧ Hid (Below wo.heap.size wo wr2))
                case atStart => exact ⟨0, hdS 0 l, some ⟨g, 0, none⟩, cap9, by omega, rfl, rfl, Lib.hid (by rw [plS_zero, List.append_nil]), HO10, HB10⟩
                case round =>
                  obtain ⟨k, cs, co, cc, hk, rfl, rfl, HC, HO, HB⟩ := hrel
                  by_cases h2 : gk = 0
                  · obtain rfl : k = i := by omega
                    have hce := HC.out
                    rw [← HENC.out] at hce
                    have HCE := Lib.hid hce
                    have hfin : Hid (cs.length = 11 + 8 * k) := Lib.hid (by rw [HC.out, List.length_append, hdS_len, plS_len])
                    clear hce
                    go_wp2_with fail
                    go_ret2
                    exact ⟨HBw.out.trans (HB.out.mono HBw.out.size), .inr ⟨cs, co, cc, by rw [HES.out, HCE.out], by rw [hfin.out]; omega, by rw [hfin.out]; omega, by go_light; rfl, ownsRow_mono HO.out HBw.out.size⟩⟩
                  · have hki : k < i := by omega
                    obtain ⟨b2, off2, bcap2, he2, hb2, hc2⟩ := tm_at HT5.out k (by rw [HDL.out]; exact hki)
                    simp only [Value.slice.injEq] at he2
                    obtain ⟨rfl, h9, rfl⟩ := he2
                    clear h9
                    rw [dropD] at hc2
                    have hd2 := (HB.out.cell (p := ⟨b2, off2 + k, none⟩) hb2).trans hc2
                    have hTd := fun w => tailn_any (uT (l.getD (k + 1) 0)) 8 (by decide) (by decide) (uT_lt _) w
                    rw [beN_8] at hTd
                    have hu := u64_wrap (l.getD (k + 1) 0)
                    have hnx := Lib.hid (plS_next l k)
                    have hsum : Hid (cs.length + (be8 (uT (l.getD (k + 1) 0))).length ≤ 140737488355328) := Lib.hid (by rw [be8_len, HC.out, List.length_append, hdS_len, plS_len]; omega)
                    clear hc2
                    generalize uT (l.getD (k + 1) 0) = U at *
                    generalize l.getD (k + 1) 0 = x at *
                    go_wp2_with (first
                      | (go_at_call 33; refine (hTd _).mono ?_; rintro _ w11 ⟨to7, tc7, rfl, ho7, hb7⟩; have HO7 := Lib.hid ho7; have HO8 := Lib.hid ((Chg.ofBelowAny (S := fun _ => False) hb7).owns HO.out (fun _ _ h => h)); have HB7 := Lib.hid (HB.out.trans (hb7.mono HB.out.size)); clear ho7 hb7 HO HB)
                      | (at_builtin; refine wpList_append_bs _ rfl (.tmp 115) (.tmp 118) rfl wo.heap.size (.slice co cs.length cc) cs rfl HO8.out (.slice to7 (be8 U).length tc7) (be8 U) rfl HO7.out.rd hsum.out HB7.out.size ?_; intro ao9 cap9 w12 hg9; have HG := Lib.hid hg9; clear hg9))
                    go_roundg (gk - 1)
                    case measure => go_light; omega
                    case rel =>
                      go_light
                      exact ⟨k + 1, cs ++ be8 U, ao9, cap9, by omega, by go_num, by simp, Lib.hid (by rw [hnx.out, HC.out, List.append_assoc]), Lib.hid HG.out.owns, Lib.hid (HB7.out.trans (HG.out.below HB7.out.size (fun j hj => (World.ownsRow.lt HO8.out j hj).1)))⟩
          · have hin : i < n := by omega
            obtain ⟨b, off, bcap, he, hb, hc⟩ := num_at HFN.out i (by rw [HUL.out]; exact hin)
            obtain ⟨b2, off2, bcap2, he2, _, hc2⟩ := num_at HFN.out 0 (by rw [HUL.out]; omega)
            simp only [Value.slice.injEq] at he he2
            obtain ⟨rfl, h9, rfl⟩ := he
            obtain ⟨e1, h8, e2⟩ := he2
            clear h8
            simp only [Option.some.injEq, Addr.mk.injEq, and_true] at e1
            obtain ⟨rfl, rfl⟩ := e1
            subst e2
            rw [upto_getD _ _ _ hin] at hc
            rw [upto_getD _ _ _ (by omega)] at hc2
            have hd1 : wr.cell? ⟨b, off + i, none⟩ = some (.int .u64 ((dAt l i : Nat) : Int)) := (HB.out.cell (p := ⟨b, off + i, none⟩) hb).trans hc
            have hd2 : wr.cell? ⟨b, off + 0, none⟩ = some (.int .u64 ((dAt l 0 : Nat) : Int)) := (HB.out.cell (p := ⟨b, off + 0, none⟩) hb).trans hc2
            rw [Nat.add_zero] at hd2
            have HAN := Lib.hid (alF_next l i)
            have HPN : Hid (pAt l (i + 1) = dAt l i) := Lib.hid rfl
            have hnx := Lib.hid (upto_next (zAt l) i)
            have hzz : zAt l i = zigN (sI ((dAt l i : Int) - (pAt l i : Int))) := rfl
            have hqok := sI_ok ((dAt l i : Int) - (pAt l i : Int))
            have hq := sub_sI (dAt l i) (pAt l i)
            have hul : (upto (zAt l) i).length = i := upto_len _ _
            have hO1 : Hid (wr.ownsRow w2.heap.size 25 1 (.slice zo i zc) i ((upto (zAt l) i).map uV)) := Lib.hid (by have := HZ.out; unfold OwnN at this; rwa [hul] at this)
            have h63 : Hid (i + 1 ≤ maxLen) := Lib.hid (by unfold maxLen; omega)
            have hby : Hid ((i + 1) * 8 ≤ 140737488355328) := Lib.hid (by omega)
            have hba : Hid (∀ o, w2.heap.size ≤ (wr.alloc o).heap.size) := Lib.hid (fun o => by have h6 := HB.out.size; have e2 : (wr.alloc o).heap.size = wr.heap.size + 1 := (by simp); omega)
            generalize sI ((dAt l i : Int) - (pAt l i : Int)) = q at *
            have hzc := fun (w : World) => zig_any q hqok w
            rw [← hzz] at hzc
            clear hc hc2 hb h9 hul HZ hzz hqok
            generalize zAt l i = ZA at *
            generalize pAt l i = P at *
            generalize dAt l i = D at *
            generalize dAt l 0 = D0 at *
            generalize alF l i = A at *
            cases A with
            | true =>
              go_wp2_with (first
                | (go_at_call 55; refine (hzc _).mono ?_; rintro _ _ ⟨rfl, rfl⟩)
                | (at_builtin; refine wpList_append_rd _ rfl (.tmp 59) (.tmp 65) 101 rfl w2.heap.size 25 (.int .u64 0) 1 8 Tryd.underlying101 infoU64 rfl (by decide) (.slice zo i zc) i ((upto (zAt l) i).map uV) rfl (World.ownsRow.alloc hO1.out _) (.slice (some ⟨wr.heap.size, 0, none⟩) 1 1) 1 [uV ZA] rfl (RdV.one wr _ 25) (one_one _ rfl) h63.out hby.out (hba.out _) ?_; intro ao6 cap6 w6 hg6; have HG := Lib.hid hg6.ofAlloc; clear hg6))
              go_roundg (gk - 1)
              case measure => go_light; omega
              case rel =>
                go_light
                refine ⟨i + 1, ao6, cap6, by omega, by go_num, by rw [HAN.out]; simp [beq_nat], by rw [HPN.out], rfl, Lib.hid ?_, Lib.hid (HB.out.trans (HG.out.below HB.out.size (fun j hj => (World.ownsRow.lt hO1.out j hj).1)))⟩
                unfold OwnN
                rw [upto_len, hnx.out, List.map_append]
                exact HG.out.owns
            | false =>
              go_wp2_with (first
                | (go_at_call 55; refine (hzc _).mono ?_; rintro _ _ ⟨rfl, rfl⟩)
                | (at_builtin; refine wpList_append_rd _ rfl (.tmp 59) (.tmp 65) 101 rfl w2.heap.size 25 (.int .u64 0) 1 8 Tryd.underlying101 infoU64 rfl (by decide) (.slice zo i zc) i ((upto (zAt l) i).map uV) rfl (World.ownsRow.alloc hO1.out _) (.slice (some ⟨wr.heap.size, 0, none⟩) 1 1) 1 [uV ZA] rfl (RdV.one wr _ 25) (one_one _ rfl) h63.out hby.out (hba.out _) ?_; intro ao6 cap6 w6 hg6; have HG := Lib.hid hg6.ofAlloc; clear hg6))
              go_roundg (gk - 1)
              case measure => go_light; omega
              case rel =>
                go_light
                refine ⟨i + 1, ao6, cap6, by omega, by go_num, by rw [HAN.out]; simp, by rw [HPN.out], rfl, Lib.hid ?_, Lib.hid (HB.out.trans (HG.out.below HB.out.size (fun j hj => (World.ownsRow.lt hO1.out j hj).1)))⟩
                unfold OwnN
                rw [upto_len, hnx.out, List.map_append]
                exact HG.out.owns
      · have hkn : k < n := by omega
        obtain ⟨b, off, bcap, he, hb, hc⟩ := tm_at HR.out k (by have := HN.out; omega)
        obtain ⟨b2, off2, bcap2, he2, hb2, hc2⟩ := tm_at HT.out k (by rw [HDL.out]; exact hkn)
        simp only [Value.slice.injEq, true_and] at he he2
        obtain ⟨rfl, rfl⟩ := he
        obtain ⟨rfl, h9, rfl⟩ := he2
        have HKL : k < l.length := by have := HN.out; omega
        rw [dropD] at hc2
        have hnx := Lib.hid (risF_next l k)
        by_cases hlt : l.getD k 0 < l.getD (k + 1) 0
        · have HRI2 : Hid (risF l (k + 1) = true) := Lib.hid (by rw [hnx.out, HRI.out]; simpa using hlt)
          clear h9
          generalize l.getD (k + 1) 0 = x at *
          generalize l.getD k 0 = y at *
          have hle : ¬ x ≤ y := by omega
          go_wp2_with fail
          go_roundg (gk - 1)
          case measure => go_light; omega
          case rel =>
            go_light
            exact ⟨k + 1, by omega, by go_num, HRI2, rfl⟩
        · have HE := Lib.hid (encS_none (l := l) (.inr (.inr (by rw [← HN.out]; exact risF_false hkn hlt))))
          clear h9
          generalize l.getD (k + 1) 0 = x at *
          generalize l.getD k 0 = y at *
          have hle : x ≤ y := by omega
          go_wp2_with fail
          go_ret2
          exact ⟨Below.refl _ _, .inl ⟨HE.out, by go_light; rfl⟩⟩
end Go.Proofs.YthcgalpabjjkoaaDoor

/- XRStEnc: gristref05.Encode. -/
namespace Go.Proofs.YthcgalpabjjkoaaDoor
open Go.RowKit
set_option linter.unusedVariables false

theorem join2_any (x y : List UInt8) (a b : Value) (t : TypeId) (w : World) (ha : Rd w a x) (hb : Rd w b y) (hl : x.length + y.length ≤ 140737488355328) :
    Calls Tryd.prog 23 #[.slice (some ⟨w.heap.size, 0, none⟩) 2 2] (w.alloc (.cells #[a, b] t)) fun e w' => ∃ ao cap, e = .returned (.slice ao (x ++ y).length cap) ∧ Own w' w.heap.size (.slice ao (x ++ y).length cap) (x ++ y) ∧ Below w.heap.size w w' := by
  have e : [x, y].flatten = x ++ y := by simp
  have h := join_any [x, y] _ _ (Parts.two (t := t) ha hb) (by rw [e, List.length_append]; exact hl)
  rw [e] at h
  refine h.mono ?_
  rintro e w' ⟨ao, cap, rfl, ho, hb⟩
  have hbl : Below w.heap.size w (w.alloc (.cells #[a, b] t)) := (Below.refl _ _).alloc (Nat.le_refl _) _
  exact ⟨ao, cap, rfl, ownsRow_mono ho (by simp), hbl.trans (hb.mono hbl.size)⟩
theorem join3_any (x y z : List UInt8) (a b c : Value) (t : TypeId) (w : World) (ha : Rd w a x) (hb : Rd w b y) (hc : Rd w c z) (hl : x.length + y.length + z.length ≤ 140737488355328) :
    Calls Tryd.prog 23 #[.slice (some ⟨w.heap.size, 0, none⟩) 3 3] (w.alloc (.cells #[a, b, c] t)) fun e w' => ∃ ao cap, e = .returned (.slice ao (x ++ y ++ z).length cap) ∧ Own w' w.heap.size (.slice ao (x ++ y ++ z).length cap) (x ++ y ++ z) ∧ Below w.heap.size w w' := by
  have e : [x, y, z].flatten = x ++ y ++ z := by simp
  have h := join_any [x, y, z] _ _ (Parts.three (t := t) ha hb hc) (by rw [e, List.length_append, List.length_append]; exact hl)
  rw [e] at h
  refine h.mono ?_
  rintro e w' ⟨ao, cap, rfl, ho, hb⟩
  have hbl : Below w.heap.size w (w.alloc (.cells #[a, b, c] t)) := (Below.refl _ _).alloc (Nat.le_refl _) _
  exact ⟨ao, cap, rfl, ownsRow_mono ho (by simp), hbl.trans (hb.mono hbl.size)⟩

theorem join2d_any (x y : List UInt8) (a b : Value) (t : TypeId) (w : World) (ha : Rd w a x) (hb : Rd w b y) (hl : x.length + y.length ≤ 140737488355328) :
    Calls Tryd.prog 23 #[.slice (some ⟨w.heap.size, 0, none⟩) 2 2] (w.alloc (.cells #[a, b] t)).drew fun e w' => ∃ ao cap, e = .returned (.slice ao (x ++ y).length cap) ∧ Own w' w.heap.size (.slice ao (x ++ y).length cap) (x ++ y) ∧ Below w.heap.size w w' := by
  have e : [x, y].flatten = x ++ y := by simp
  have h := join_any [x, y] _ (w.alloc (.cells #[a, b] t)).drew (Parts.two (t := t) ha hb) (by rw [e, List.length_append]; exact hl)
  rw [e] at h
  refine h.mono ?_
  rintro e w' ⟨ao, cap, rfl, ho, hb⟩
  have hbl : Below w.heap.size w (w.alloc (.cells #[a, b] t)).drew := ((Below.refl _ _).alloc (Nat.le_refl _) _).drew
  exact ⟨ao, cap, rfl, ownsRow_mono ho hbl.size, hbl.trans (hb.mono hbl.size)⟩
theorem join3d_any (x y z : List UInt8) (a b c : Value) (t : TypeId) (w : World) (ha : Rd w a x) (hb : Rd w b y) (hc : Rd w c z) (hl : x.length + y.length + z.length ≤ 140737488355328) :
    Calls Tryd.prog 23 #[.slice (some ⟨w.heap.size, 0, none⟩) 3 3] (w.alloc (.cells #[a, b, c] t)).drew fun e w' => ∃ ao cap, e = .returned (.slice ao (x ++ y ++ z).length cap) ∧ Own w' w.heap.size (.slice ao (x ++ y ++ z).length cap) (x ++ y ++ z) ∧ Below w.heap.size w w' := by
  have e : [x, y, z].flatten = x ++ y ++ z := by simp
  have h := join_any [x, y, z] _ (w.alloc (.cells #[a, b, c] t)).drew (Parts.three (t := t) ha hb hc) (by rw [e, List.length_append, List.length_append]; exact hl)
  rw [e] at h
  refine h.mono ?_
  rintro e w' ⟨ao, cap, rfl, ho, hb⟩
  have hbl : Below w.heap.size w (w.alloc (.cells #[a, b, c] t)).drew := ((Below.refl _ _).alloc (Nat.le_refl _) _).drew
  exact ⟨ao, cap, rfl, ownsRow_mono ho hbl.size, hbl.trans (hb.mono hbl.size)⟩

set_option maxHeartbeats 2000000 in
set_option maxRecDepth 100000 in
theorem rencode_any (l : List Int) (v : Value) (w : World) (hok : ∀ t ∈ l, i64ok t) (hr : Tms w v l) :
    Calls Tryd.prog 40 #[v] w fun e w' => StEnd l w e w' := by
  obtain ⟨ao0, cap0, rfl, hnc, hcm⟩ := RdV.shape hr
  unfold maxLen at hcm
  by_cases hlen : l.length = 0 ∨ 1000 < l.length
  · have HE := Lib.hid (encS_none (l := l) (by rcases hlen with h | h; exact .inl h; exact .inr (.inl h)))
    go_enter Tryd.func40, Tryd.ntmps40
    rcases hlen with h | h
    · have hz : (l.length : Int) < 1 := by omega
      go_wp2_with fail
      go_ret2
      exact ⟨Below.refl _ _, .inl ⟨HE.out, by go_light; rfl⟩⟩
    · have hz : ¬ (l.length : Int) < 1 := by omega
      have hz2 : (1000 : Int) < (l.length : Int) := by omega
      go_wp2_with fail
      go_ret2
      exact ⟨Below.refl _ _, .inl ⟨HE.out, by go_light; rfl⟩⟩
  · have hl0 : l.length ≠ 0 := by omega
    have hl1 : l.length ≤ 1000 := by omega
    have hb1 : 1 ≤ l.length := by omega
    have hz : ¬ (l.length : Int) < 1 := by omega
    have HR := Lib.hid hr
    have HOK := Lib.hid hok
    clear hr hlen hok
    obtain ⟨n, hn⟩ : ∃ n, n = l.length - 1 := ⟨_, rfl⟩
    have HN := Lib.hid hn
    have hn1 : n ≤ 999 := by omega
    clear hn
    go_enter Tryd.func40, Tryd.ntmps40
    go_wp2_with fail
    go_loopg [4, 5, 6, 7] n (fun m s4 s5 s6 s7 wr => ∃ (k I : Nat) (zo : Option Addr) (zc : Nat), k + m = n ∧ I = k + 1 ∧ s7 = .int .i64 (I : Int) ∧ s4 = .bool (alF l k) ∧ s6 = .int .u64 ((pAt l k : Nat) : Int) ∧ s5 = .slice zo k zc ∧ Hid (risF l k = true) ∧ Hid (OwnN wr w.heap.size (.slice zo k zc) (upto (zAt l) k)) ∧ Hid (Below w.heap.size w wr))
    case atStart => exact ⟨0, 1, none, 0, by omega, rfl, rfl, by rw [alF_zero]; congr 1; exact decide_eq_decide.2 (by omega), rfl, rfl, Lib.hid rfl, Lib.hid (World.ownsRow_nil _ _ _ _), Lib.hid (Below.refl _ _)⟩
    case round =>
      obtain ⟨k, I, zo, zc, hk, hI, rfl, rfl, rfl, rfl, HRI, HZ, HB⟩ := hrel
      by_cases h0 : gk = 0
      · obtain rfl : k = n := by omega
        clear hk
        have hge : ¬ (I : Int) < (l.length : Int) := by have := HN.out; omega
        have HII := Lib.hid hI
        have hp0 : (0 : Int) < (l.length : Int) := by omega
        clear hI
        go_upto_region 15 with fail
        obtain ⟨b0, off0, bcap0, he0, hbb0, hc0⟩ := tm_at (RdV.below HR.out HB.out) 0 (by omega)
        simp only [Value.slice.injEq, true_and] at he0
        obtain ⟨rfl, rfl⟩ := he0
        rw [Nat.add_zero] at hc0
        have hu0 := u64_wrap (l.getD 0 0)
        have hUl := uT_lt (l.getD 0 0)
        have HUL := Lib.hid hUl
        have hlen65 := Lib.hid (show l.length < 65536 by omega)
        have hLI := Lib.hid (show (beN 2 l.length).length + (be8 (uT (l.getD 0 0))).length ≤ 140737488355328 by rw [beN_len, be8_len]; decide)
        have HHD : Hid (∀ m : UInt8, m :: (beN 2 l.length ++ be8 (uT (l.getD 0 0))) = hdS m l) := Lib.hid (fun m => rfl)
        clear hUl
        have hTwo := fun w => two_any l.length hlen65.out w
        have hEi := fun w => eight_any (uT (l.getD 0 0)) HUL.out w
        generalize beN 2 l.length = T2 at *
        generalize wr = wo at *
        obtain ⟨H2, hH2⟩ : ∃ H2, H2 = T2 ++ be8 (uT (l.getD 0 0)) := ⟨_, rfl⟩
        rw [← hH2] at HHD
        have HH2 := Lib.hid hH2
        clear hH2
        go_cut [9] (fun s9 wx => ∃ ao cap, s9 = .slice ao H2.length cap ∧ Rd wx (.slice ao H2.length cap) H2 ∧ Below wo.heap.size wo wx)
        case first =>
          generalize uT (l.getD 0 0) = U0 at *
          generalize l.getD 0 0 = t0 at *
          clear HHD HR HOK HN hnc hcm HRI HZ
          generalize l.length = LN at *
          have hpN : 0 < LN := by omega
          have hpN2 : ¬ LN = 0 := by omega
          go_region_held3 (fun w' => w'.cell? ⟨b0, off0, none⟩ = some (.int .i64 t0))
            (first
              | exact hc0
              | exact (hBa.cell (p := ⟨b0, off0, none⟩) hbb0).trans hc0
              | exact (hBb.cell (p := ⟨b0, off0, none⟩) hbb0).trans hc0
              | exact ((hBb.alloc hBb.size _).cell (p := ⟨b0, off0, none⟩) hbb0).trans hc0
              | exact (hBc.cell (p := ⟨b0, off0, none⟩) hbb0).trans hc0)
            (first
              | (go_at_call 39; refine (hTwo _).mono ?_; rintro _ wa ⟨ao2, ac2, rfl, hoa, hba⟩; have HOA := Lib.hid hoa; have hBa : Below wo.heap.size wo wa := ⟨hba.os, hba.tape, hba.output, hba.size, hba.block⟩; clear hoa hba)
              | (go_at_call 22; refine (hEi _).mono ?_; rintro _ wb ⟨ao3, ac3, rfl, hob, hbb⟩; have hBb : Below wo.heap.size wo wb := hBa.trans (hbb.mono hBa.size); have HOB := Lib.hid hob; have HOA2 := Lib.hid (show Own wb _ (.slice ao2 T2.length ac2) T2 from (Chg.ofBelowAny (S := fun _ => False) hbb).owns HOA.out (fun _ _ h => h)); clear hob hbb)
              | (go_at_call 23; have hJ := join2_any T2 (be8 U0) _ _ 33 wb HOA2.out.rd HOB.out.rd hLI.out; rw [← HH2.out] at hJ; refine hJ.mono ?_; rintro _ wc ⟨ao4, ac4, rfl, hoc, hbc⟩; have hBc : Below wo.heap.size wo wc := hBb.trans (hbc.mono hBb.size); have HOC := Lib.hid hoc; clear hoc hbc))
          all_goals (go_wp2_with fail; go_meet; go_light; exact ⟨ao4, ac4, rfl, HOC.out.rd, hBc⟩)
        case rest =>
        obtain ⟨ho1, hc1, rfl, hH, hBc⟩ := hcut
        have HH := Lib.hid hH
        have HBc := Lib.hid (show Below w.heap.size w wc from HB.out.trans (hBc.mono HB.out.size))
        have HZ2 := Lib.hid (show Nums wc (.slice zo k zc) (upto (zAt l) k) from RdV.below HZ.out.nums hBc)
        have hRP := rpack_any (upto (zAt l) k) _ wc (by rw [upto_len]; omega) (upto_lt _ _ (zAt_lt l) _) HZ2.out
        obtain ⟨pm, hpm⟩ : ∃ pm, pm = pkO (upto (zAt l) k) := ⟨_, rfl⟩
        have HPM := Lib.hid hpm
        have HES := Lib.hid (encS_some hl0 hl1 (by rw [← HN.out]; exact HRI.out))
        clear hpm hH hBc HZ hTwo hEi hc0 hu0 hLI HB hbb0
        go_upto_region 17 with (go_at_call 62; refine hRP.mono ?_; intro e w10 h; obtain ⟨hb10, po, pc, rfl, hr10, hl10⟩ := pkO_one h; rw [← HPM.out] at hr10 hl10 ⊢; have HR10 := Lib.hid hr10.rd; have HL10 := Lib.hid (show pm.1.length ≤ 8000 by rw [upto_len] at hl10; omega); have HH10 := Lib.hid (show Rd w10 (.slice ho1 H2.length hc1) H2 from RdV.below HH.out.v hb10); have HB10 := Lib.hid (HBc.out.trans (hb10.mono HBc.out.size)); clear h hb10 hr10 hl10 hRP)
        obtain ⟨p, m⟩ := pm
        dsimp only at *
        have hH2l : Hid (H2.length = 10) := Lib.hid (by have := congrArg List.length (HHD.out 0); rw [hdS_len, List.length_cons] at this; omega)
        clear HH HZ2 HBc HH2 hlen65 HUL
        cases hal : alF l k with
        | true =>
          have hk1 : 0 < k ∧ 1 < l.length := by
            unfold alF at hal
            rw [Bool.and_eq_true, decide_eq_true_eq] at hal
            have := HN.out
            omega
          have HENC := Lib.hid (encB_al (by rw [← HN.out]; exact hal))
          obtain ⟨b4, off4, bcap4, he4, hbb4, hc4⟩ := tm_at (RdV.below HR.out HB10.out) 1 hk1.2
          obtain ⟨b3, off3, bcap3, he3, _, hc3⟩ := tm_at (RdV.below HR.out HB10.out) 0 (by omega)
          simp only [Value.slice.injEq, true_and, Option.some.injEq, Addr.mk.injEq, and_true] at he3 he4
          obtain ⟨⟨rfl, rfl⟩, rfl⟩ := he4
          obtain ⟨⟨rfl, rfl⟩, f3⟩ := he3
          clear f3
          rw [Nat.add_zero] at hc3
          have hX0 : IntKind.u64.wrap (IntKind.u64.wrap (l.getD 1 0) - IntKind.u64.wrap (l.getD 0 0)) = ((dAt l 0 : Nat) : Int) := by
            rw [u64_wrap (l.getD 1 0), u64_wrap (l.getD 0 0), u64_wrap, uT_sub]; rfl
          have hE8 := fun w => eight_any (dAt l 0) (dAt_lt _ _) w
          have hfl : Hid (([1] ++ H2 ++ be8 (dAt l 0)) = encB l) := Lib.hid (by rw [HENC.out, ← HHD.out 1]; rfl)
          have hfs : Hid (([1] : List UInt8).length + H2.length + (be8 (dAt l 0)).length ≤ 140737488355328) := Lib.hid (by rw [hH2l.out, be8_len]; decide)
          have hfe : Hid ((encB l).length = 19) := Lib.hid (by rw [HENC.out, List.length_append, hdS_len, be8_len])
          clear hal HENC HHD HR HOK HN hnc hcm HRI HPM hge HR10 HL10
          go_upto_region 18 with fail
          generalize dAt l 0 = D0 at *
          generalize l.getD 1 0 = t1 at *
          generalize l.getD 0 0 = t0 at *
          generalize l.length = LN at *
          have hpN : 0 < LN := by omega
          have hpN2 : ¬ LN = 0 := by omega
          have hpN3 : 1 < LN := hk1.2
          have hpN4 : (1 : Int) < (LN : Int) := by omega
          have hBw : Below w10.heap.size w10 w10.drew := (Below.refl _ _).drew
          have hBA : Below w10.heap.size w10 (w10.alloc (.cells #[.int .u8 1] 5)).drew := ((Below.refl _ _).alloc (Nat.le_refl _) _).drew
          go_region_held3 (fun w' => w'.cell? ⟨b0, off0, none⟩ = some (.int .i64 t0) ∧ w'.cell? ⟨b0, off0 + 1, none⟩ = some (.int .i64 t1))
            (first
              | exact ⟨hc3, hc4⟩
              | exact ⟨(hBA.cell (p := ⟨b0, off0, none⟩) hbb4).trans hc3, (hBA.cell (p := ⟨b0, off0 + 1, none⟩) hbb4).trans hc4⟩
              | exact ⟨(hBb.cell (p := ⟨b0, off0, none⟩) hbb4).trans hc3, (hBb.cell (p := ⟨b0, off0 + 1, none⟩) hbb4).trans hc4⟩
              | exact ⟨((hBb.alloc hBb.size _).cell (p := ⟨b0, off0, none⟩) hbb4).trans hc3, ((hBb.alloc hBb.size _).cell (p := ⟨b0, off0 + 1, none⟩) hbb4).trans hc4⟩
              | exact ⟨(((hBb.alloc hBb.size _).alloc (hBb.alloc hBb.size _).size _).cell (p := ⟨b0, off0, none⟩) hbb4).trans hc3, (((hBb.alloc hBb.size _).alloc (hBb.alloc hBb.size _).size _).cell (p := ⟨b0, off0 + 1, none⟩) hbb4).trans hc4⟩
              | exact ⟨(hBc.cell (p := ⟨b0, off0, none⟩) hbb4).trans hc3, (hBc.cell (p := ⟨b0, off0 + 1, none⟩) hbb4).trans hc4⟩)
            (first
              | (go_at_call 22; refine (hE8 _).mono ?_; rintro _ wb ⟨ao3, ac3, rfl, hob, hbb⟩; have HOB := Lib.hid hob; first | (have hbb1 : Below (w10.alloc (.cells #[.int .u8 1] 5)).drew.heap.size (w10.alloc (.cells #[.int .u8 1] 5)).drew wb := (by with_reducible exact hbb); have hBb : Below w10.heap.size w10 wb := hBA.trans (hbb1.mono hBA.size); have HL1 := Lib.hid (show Rd wb (.slice (some ⟨w10.heap.size, 0, none⟩) 1 1) [1] from RdV.below (show RdV (w10.alloc (.cells #[.int .u8 1] 5)).drew 1 _ 1 _ from RdV.lit w10 #[.int .u8 1] 5 1 1 (by decide) rfl) hbb1); clear hob hbb hbb1) | (have hbb1 : Below w10.drew.heap.size w10.drew wb := (by with_reducible exact hbb); have hBb : Below w10.heap.size w10 wb := hBw.trans hbb1; clear hob hbb hbb1))
              | (go_at_call 23; have hJ := join3_any [1] H2 (be8 D0) _ (.slice ho1 H2.length hc1) _ 33 wb HL1.out (RdV.below HH10.out.v hBb) HOB.out.rd hfs.out; rw [hfl.out] at hJ; refine hJ.mono ?_; rintro _ wc2 ⟨ao4, ac4, rfl, hoc, hbc⟩; have hBc : Below w10.heap.size w10 wc2 := hBb.trans (hbc.mono hBb.size); have HOC := Lib.hid (ownsRow_mono hoc hBb.size); clear hoc hbc)
              | (go_at_call 23; have hBbl := hBb.alloc hBb.size (.cells #[.int .u8 1] 5); have hJ := join3_any [1] H2 (be8 D0) _ (.slice ho1 H2.length hc1) _ 33 (wb.alloc (.cells #[.int .u8 1] 5)) (show Rd _ (.slice (some ⟨wb.heap.size, 0, none⟩) 1 1) [1] from RdV.lit wb #[.int .u8 1] 5 1 1 (by decide) rfl) (RdV.below HH10.out.v hBbl) (RdV.below HOB.out.rd.v ((Below.refl _ _).alloc (Nat.le_refl _) _)) hfs.out; have eS : (wb.alloc (.cells #[.int .u8 1] 5)).heap.size = wb.heap.size + 1 := (by simp); rw [hfl.out, eS] at hJ; refine hJ.mono ?_; rintro _ wc2 ⟨ao4, ac4, rfl, hoc, hbc⟩; have hBc : Below w10.heap.size w10 wc2 := hBbl.trans (hbc.mono (by have := hBb.size; omega)); have HOC := Lib.hid (ownsRow_mono hoc (show w10.heap.size ≤ wb.heap.size + 1 by have := hBb.size; omega)); clear hoc hbc))
          all_goals (go_wp2_with fail; go_ret2; exact ⟨HB10.out.trans (hBc.mono HB10.out.size), .inr ⟨encB l, ao4, ac4, HES.out, by rw [hfe.out]; decide, by rw [hfe.out]; decide, by go_light; rfl, ownsRow_mono HOC.out HB10.out.size⟩⟩)
        | false =>
          have HAL : Hid (alF l (l.length - 1) = false) := Lib.hid (by rw [← HN.out]; exact hal)
          have hBA := (Below.refl w10.heap.size w10).alloc (Nat.le_refl _) (.cells #[.int .u8 2] 5)
          have hBA0 := (Below.refl w10.heap.size w10).alloc (Nat.le_refl _) (.cells #[.int .u8 0] 5)
          by_cases hX : m = 0 ∧ 0 < k
          · obtain ⟨rfl, hk0⟩ := hX
            have h2l : (2 : Int) ≤ (l.length : Int) := by have := HN.out; omega
            have HENC : Hid (encB l = hdS 2 l ++ p) := Lib.hid (by
              rcases pkO_ok HPM.out with ⟨_, hp⟩ | ⟨h, _⟩
              · exact encB_pk HAL.out (by have := HN.out; omega) (by rw [← HN.out]; exact hp)
              · cases h)
            have hJ := join3_any [2] H2 p (.slice (some ⟨w10.heap.size, 0, none⟩) 1 1) (.slice ho1 H2.length hc1) (.slice po p.length pc) 33 (w10.alloc (.cells #[.int .u8 2] 5)) (RdV.lit w10 #[.int .u8 2] 5 1 1 (by decide) rfl) (RdV.below HH10.out.v hBA) (RdV.below HR10.out.v hBA) (by rw [hH2l.out]; have := HL10.out; simp; omega)
            have eS : (w10.alloc (.cells #[.int .u8 2] 5)).heap.size = w10.heap.size + 1 := by simp
            have hfl : ([2] ++ H2 ++ p) = encB l := by rw [HENC.out, ← HHD.out 2]; rfl
            rw [hfl, eS] at hJ
            have hfe : Hid ((encB l).length = 11 + p.length) := Lib.hid (by rw [HENC.out, List.length_append, hdS_len])
            have HBA := Lib.hid hBA
            clear hal hfl eS hBA hBA0 HHD HENC HPM HAL
            go_wp2_with (go_at_call 23; refine hJ.mono ?_; rintro _ wc2 ⟨ao4, ac4, rfl, hoc, hbc⟩; have HBc2 := Lib.hid (HBA.out.trans (hbc.mono (show w10.heap.size ≤ w10.heap.size + 1 by omega))); have HOC := Lib.hid (ownsRow_mono hoc (show w10.heap.size ≤ w10.heap.size + 1 by omega)); clear hoc hbc hJ)
            go_ret2
            exact ⟨HB10.out.trans (HBc2.out.mono HB10.out.size), .inr ⟨encB l, ao4, ac4, HES.out, by rw [hfe.out]; have := HL10.out; omega, by rw [hfe.out]; omega, by go_light; rfl, ownsRow_mono HOC.out HB10.out.size⟩⟩
          · have HENC : Hid (encB l = hdS 0 l ++ plS l k) := Lib.hid (by
              have := HN.out
              rw [encB_pl HAL.out (by
                rcases pkO_ok HPM.out with ⟨h, hp⟩ | ⟨h, hp⟩
                · right; intro h1; exact hX ⟨h, by omega⟩
                · left; rw [← HN.out]; exact hp), ← HN.out])
            go_upto_region 19 with fail
            go_cut [107] (fun s107 wx => s107 = .bool false ∧ wx = w10)
            case first =>
              by_cases h2l : (2 : Int) ≤ (l.length : Int)
              · have hm : ((m : Int) == 0) = false := decide_eq_false (by intro h; exact hX ⟨by omega, by have := HN.out; omega⟩)
                go_wp2_with fail
                all_goals go_meet
                all_goals go_light
                all_goals exact ⟨rfl, rfl⟩
              · go_wp2_with fail
                all_goals go_meet
                all_goals go_light
                all_goals exact ⟨rfl, rfl⟩
            case rest =>
            obtain ⟨rfl, rfl⟩ := hcut
            generalize wc = wq at *
            have hJ := join2_any [0] H2 (.slice (some ⟨wq.heap.size, 0, none⟩) 1 1) (.slice ho1 H2.length hc1) 33 (wq.alloc (.cells #[.int .u8 0] 5)) (RdV.lit wq #[.int .u8 0] 5 1 1 (by decide) rfl) (RdV.below HH10.out.v hBA0) (by rw [hH2l.out]; decide)
            have eS : (wq.alloc (.cells #[.int .u8 0] 5)).heap.size = wq.heap.size + 1 := by simp
            have hfl : ([0] ++ H2) = hdS 0 l := HHD.out 0
            rw [hfl, eS] at hJ
            have HBA := Lib.hid hBA0
            clear hal hfl eS hBA hBA0 HHD HPM hX HR10 HL10
            go_wp2_with (go_at_call 23; refine hJ.mono ?_; rintro _ wc2 ⟨ao4, ac4, rfl, hoc, hbc⟩; have HBc2 := Lib.hid (HBA.out.trans (hbc.mono (show wq.heap.size ≤ wq.heap.size + 1 by omega))); have HOC := Lib.hid (show Own wc2 wq.heap.size (.slice ao4 (hdS 0 l).length ac4) (hdS 0 l) from ownsRow_mono hoc (show wq.heap.size ≤ wq.heap.size + 1 by omega)); clear hoc hbc hJ)
            go_loopg [12, 13] k (fun m s12 s13 wr => ∃ (q J : Nat) (cs : List UInt8) (co : Option Addr) (cc : Nat), q + m = k ∧ J = q + 1 ∧ s13 = .int .i64 (J : Int) ∧ s12 = .slice co cs.length cc ∧ Hid (cs = hdS 0 l ++ plS l q) ∧ Hid (Own wr wq.heap.size (.slice co cs.length cc) cs) ∧ Hid (Below wq.heap.size wq wr))
            case atStart => exact ⟨0, 1, hdS 0 l, ao4, ac4, by omega, rfl, rfl, rfl, Lib.hid (by rw [plS_zero, List.append_nil]), HOC, HBc2⟩
            case round =>
              obtain ⟨q, J, cs, co, cc, hq, hJq, rfl, rfl, HC, HO, HB2⟩ := hrel
              by_cases h2 : gk = 0
              · obtain rfl : q = k := by omega
                have hge2 : ¬ (J : Int) < (l.length : Int) := by have := HN.out; omega
                have hce := HC.out
                rw [← HENC.out] at hce
                have HCE := Lib.hid hce
                have hfin : Hid (cs.length = 11 + 8 * q) := Lib.hid (by rw [HC.out, List.length_append, hdS_len, plS_len])
                clear hce hJq
                go_wp2_with fail
                go_ret2
                exact ⟨HB10.out.trans (HB2.out.mono HB10.out.size), .inr ⟨cs, co, cc, by rw [HES.out, HCE.out], by rw [hfin.out]; omega, by rw [hfin.out]; omega, by go_light; rfl, ownsRow_mono HO.out HB10.out.size⟩⟩
              · have hqk : q < k := by omega
                have hJl : J < l.length := by have := HN.out; omega
                have hJI : (J : Int) < (l.length : Int) := by omega
                obtain ⟨b2, off2, bcap2, he2, hb2, hc2⟩ := tm_at (RdV.below HR.out (HB10.out.trans (HB2.out.mono HB10.out.size))) J hJl
                simp only [Value.slice.injEq, true_and, Option.some.injEq, Addr.mk.injEq, and_true] at he2
                obtain ⟨⟨rfl, rfl⟩, f2⟩ := he2
                clear f2
                have hTd := fun w => eight_any (uT (l.getD J 0)) (uT_lt _) w
                have hu := u64_wrap (l.getD J 0)
                have hnx : Hid (plS l (q + 1) = plS l q ++ be8 (uT (l.getD J 0))) := Lib.hid (by rw [plS_next, hJq])
                have hsum : Hid (cs.length + (be8 (uT (l.getD J 0))).length ≤ 140737488355328) := Lib.hid (by rw [be8_len, HC.out, List.length_append, hdS_len, plS_len]; omega)
                have HJQ := Lib.hid hJq
                clear hJq
                generalize uT (l.getD J 0) = U at *
                generalize l.getD J 0 = x at *
                go_wp2_with (first
                  | (go_at_call 22; refine (hTd _).mono ?_; rintro _ w11 ⟨to7, tc7, rfl, ho7, hb7⟩; have HO7 := Lib.hid ho7; have HO8 := Lib.hid ((Chg.ofBelowAny (S := fun _ => False) hb7).owns HO.out (fun _ _ h => h)); have HB7 := Lib.hid (HB2.out.trans (hb7.mono HB2.out.size)); clear ho7 hb7 HO HB2)
                  | (at_builtin; refine wpList_append_bs _ rfl (.tmp 130) (.tmp 136) rfl wq.heap.size (.slice co cs.length cc) cs rfl HO8.out (.slice to7 (be8 U).length tc7) (be8 U) rfl HO7.out.rd hsum.out HB7.out.size ?_; intro ao9 cap9 w12 hg9; have HG := Lib.hid hg9; clear hg9))
                go_roundg (gk - 1)
                case measure => go_light; omega
                case rel =>
                  go_light
                  exact ⟨q + 1, J + 1, cs ++ be8 U, ao9, cap9, by omega, by have := HJQ.out; omega, by go_num, by simp, Lib.hid (by rw [hnx.out, HC.out, List.append_assoc]), Lib.hid HG.out.owns, Lib.hid (HB7.out.trans (HG.out.below HB7.out.size (fun j hj => (World.ownsRow.lt HO8.out j hj).1)))⟩
      · have hkn : k < n := by omega
        have hlt : (I : Int) < (l.length : Int) := by have := HN.out; omega
        have hIl : I < l.length := by omega
        have hkl : k < l.length := by omega
        have hIk : (I : Int) - 1 = (k : Int) := by omega
        obtain ⟨b, off, bcap, he, hb, hc⟩ := tm_at (RdV.below HR.out HB.out) k hkl
        obtain ⟨b2, off2, bcap2, he2, _, hc2⟩ := tm_at (RdV.below HR.out HB.out) I hIl
        obtain ⟨b3, off3, bcap3, he3, _, hc3⟩ := tm_at (RdV.below HR.out HB.out) 0 (by omega)
        obtain ⟨b4, off4, bcap4, he4, _, hc4⟩ := tm_at (RdV.below HR.out HB.out) 1 (by omega)
        simp only [Value.slice.injEq, true_and] at he he2 he3 he4
        obtain ⟨rfl, rfl⟩ := he
        obtain ⟨e2, f2⟩ := he2
        clear f2
        obtain ⟨e3, f3⟩ := he3
        clear f3
        obtain ⟨e4, f4⟩ := he4
        clear f4
        simp only [Option.some.injEq, Addr.mk.injEq, and_true] at e2 e3 e4
        obtain ⟨rfl, rfl⟩ := e2
        obtain ⟨rfl, rfl⟩ := e3
        obtain ⟨rfl, rfl⟩ := e4
        rw [Nat.add_zero] at hc3
        have HII := Lib.hid hI
        have hcI : l.getD I 0 = l.getD (k + 1) 0 := by rw [hI]
        rw [hcI] at hc2
        have hnx := Lib.hid (risF_next l k)
        clear hI hcI
        by_cases hrs : l.getD k 0 < l.getD (k + 1) 0
        · have HRI2 : Hid (risF l (k + 1) = true) := Lib.hid (by rw [hnx.out, HRI.out]; simpa using hrs)
          have HAN := Lib.hid (alF_next l k)
          have HPN : Hid (pAt l (k + 1) = dAt l k) := Lib.hid rfl
          have hux := Lib.hid (upto_next (zAt l) k)
          have hzz : zAt l k = zigN (sI ((dAt l k : Int) - (pAt l k : Int))) := rfl
          have hqok := sI_ok ((dAt l k : Int) - (pAt l k : Int))
          have hq := sub_sI (dAt l k) (pAt l k)
          have hul : (upto (zAt l) k).length = k := upto_len _ _
          have hX : IntKind.u64.wrap (IntKind.u64.wrap (l.getD (k + 1) 0) - IntKind.u64.wrap (l.getD k 0)) = ((dAt l k : Nat) : Int) := by
            rw [u64_wrap (l.getD (k + 1) 0), u64_wrap (l.getD k 0), u64_wrap, uT_sub]; rfl
          have hX0 : IntKind.u64.wrap (IntKind.u64.wrap (l.getD 1 0) - IntKind.u64.wrap (l.getD 0 0)) = ((dAt l 0 : Nat) : Int) := by
            rw [u64_wrap (l.getD 1 0), u64_wrap (l.getD 0 0), u64_wrap, uT_sub]; rfl
          generalize sI ((dAt l k : Int) - (pAt l k : Int)) = q at *
          have hzc := fun (w : World) => rzig_any q hqok w
          rw [← hzz] at hzc
          have hO1 : Hid (wr.ownsRow w.heap.size 25 1 (.slice zo k zc) k ((upto (zAt l) k).map uV)) := Lib.hid (by have := HZ.out; unfold OwnN at this; rwa [hul] at this)
          have h63 : Hid (k + 1 ≤ maxLen) := Lib.hid (by unfold maxLen; omega)
          have hby : Hid ((k + 1) * 8 ≤ 140737488355328) := Lib.hid (by omega)
          have hba : Hid (∀ m o, w.heap.size ≤ ((wr.drewN m).alloc o).heap.size) := Lib.hid (fun m o => by have h6 := HB.out.size; have e1 : (wr.drewN m).heap.size = wr.heap.size := rfl; have e2 : ((wr.drewN m).alloc o).heap.size = (wr.drewN m).heap.size + 1 := (by simp); omega)
          clear HZ hzz hqok hul hnx
          generalize zAt l k = ZA at *
          generalize pAt l k = P at *
          generalize dAt l k = D at *
          generalize dAt l 0 = D0 at *
          generalize alF l k = A at *
          generalize l.getD (k + 1) 0 = x at *
          generalize l.getD k 0 = y at *
          generalize l.getD 1 0 = t1 at *
          generalize l.getD 0 0 = t0 at *
          have hle : ¬ x ≤ y := by omega
          go_upto_region 9 with fail
          go_quiet (fail)
          go_upto_region 11 with fail
          go_quiet (fail)
          go_upto_region 12 with fail
          cases A with
          | true =>
            go_quiet (fail)
            simp only [World.drewN_drewN]
            go_wp2_with (first
              | (go_at_call 61; refine (hzc _).mono ?_; rintro _ _ ⟨rfl, rfl⟩)
              | (at_builtin; refine wpList_append_rd _ rfl (.tmp 67) (.tmp 73) 101 rfl w.heap.size 25 (.int .u64 0) 1 8 Tryd.underlying101 infoU64 rfl (by decide) (.slice zo k zc) k ((upto (zAt l) k).map uV) rfl (World.ownsRow.alloc (by exact hO1.out) _) (.slice (some ⟨_, 0, none⟩) 1 1) 1 [uV ZA] rfl (RdV.one _ _ 25) (one_one _ rfl) h63.out hby.out (hba.out _ _) ?_; intro ao6 cap6 w6 hg6; have HG := Lib.hid hg6.ofAlloc; clear hg6))
            go_roundg (gk - 1)
            case measure => go_light; omega
            case rel =>
              go_light
              have hBd := HG.out.below (B := w.heap.size) HB.out.size (fun j hj => (World.ownsRow.lt hO1.out j hj).1)
              refine ⟨k + 1, I + 1, ao6, cap6, by omega, by have := HII.out; omega, by go_num, by rw [HAN.out]; simp [beq_nat], by rw [HPN.out], rfl, HRI2, Lib.hid ?_, Lib.hid ((below_dr HB.out _).trans hBd)⟩
              unfold OwnN
              rw [upto_len, hux.out, List.map_append]
              exact HG.out.owns
          | false =>
            go_quiet (fail)
            simp only [World.drewN_drewN]
            go_wp2_with (first
              | (go_at_call 61; refine (hzc _).mono ?_; rintro _ _ ⟨rfl, rfl⟩)
              | (at_builtin; refine wpList_append_rd _ rfl (.tmp 67) (.tmp 73) 101 rfl w.heap.size 25 (.int .u64 0) 1 8 Tryd.underlying101 infoU64 rfl (by decide) (.slice zo k zc) k ((upto (zAt l) k).map uV) rfl (World.ownsRow.alloc (by exact hO1.out) _) (.slice (some ⟨_, 0, none⟩) 1 1) 1 [uV ZA] rfl (RdV.one _ _ 25) (one_one _ rfl) h63.out hby.out (hba.out _ _) ?_; intro ao6 cap6 w6 hg6; have HG := Lib.hid hg6.ofAlloc; clear hg6))
            go_roundg (gk - 1)
            case measure => go_light; omega
            case rel =>
              go_light
              have hBd := HG.out.below (B := w.heap.size) HB.out.size (fun j hj => (World.ownsRow.lt hO1.out j hj).1)
              refine ⟨k + 1, I + 1, ao6, cap6, by omega, by have := HII.out; omega, by go_num, by rw [HAN.out]; simp, by rw [HPN.out], rfl, HRI2, Lib.hid ?_, Lib.hid ((below_dr HB.out _).trans hBd)⟩
              unfold OwnN
              rw [upto_len, hux.out, List.map_append]
              exact HG.out.owns
        · have HE := Lib.hid (encS_none (l := l) (.inr (.inr (by rw [← HN.out]; exact risF_false hkn hrs))))
          generalize l.getD (k + 1) 0 = x at *
          generalize l.getD k 0 = y at *
          have hle : x ≤ y := by omega
          go_upto_region 9 with fail
          go_quiet (fail)
          go_wp2_with fail
          go_ret2
          exact ⟨below_dr HB.out _, .inl ⟨HE.out, by go_light; rfl⟩⟩
end Go.Proofs.YthcgalpabjjkoaaDoor

/- XStO: A stamp Encode's result as bytes and an error; opening times; own times. -/
namespace Go.Proofs.YthcgalpabjjkoaaDoor
open Go.RowKit
set_option linter.unusedVariables false
set_option maxRecDepth 20000

def stO (l : List Int) : List UInt8 × Nat := match encS l with
  | none => ([], 1)
  | some bs => (bs, 0)
theorem stO_one {l : List Int} {w w' : World} {e : Ending} (h : StEnd l w e w') :
    Below w.heap.size w w' ∧ ∃ ao cap, e = .returned (.tuple #[.slice ao (stO l).1.length cap, .int .i64 ((stO l).2 : Int)]) ∧ Own w' w.heap.size (.slice ao (stO l).1.length cap) (stO l).1 ∧ (stO l).1.length ≤ 9000 := by
  refine ⟨h.1, ?_⟩
  unfold stO
  rcases h.2 with ⟨h1, rfl⟩ | ⟨bs, ao, cap, h1, h2, _, rfl, ho⟩
  · rw [h1]
    exact ⟨none, 0, rfl, Own.nil _ _, by simp⟩
  · rw [h1]
    exact ⟨ao, cap, rfl, ho, h2⟩

section
variable {H : Type} {enc : TypeId × Value → H} {W : World}
theorem open_times {v : Value} {b0 : Nat} {d : DataW H} {ps : List MemPlace} (o : Value.okWide Tryd.prog W .any b0 76 v) (h : DataW.Trod enc Tryd.prog W 0 (fun _ => true) true 76 v d ps) :
    ∃ l : List Int, Tms W v l ∧ (∀ x ∈ l, i64ok x) ∧ l.length + 1 ≤ Rows.uptoBulk d ∧ ((v = .slice none 0 0 ∧ d = .nil ∧ l = []) ∨ ∃ els sp, d = .slice els sp ∧ els.length = l.length) := by
  obtain ⟨xs, h1, h2, h3, h4⟩ := open_flat (fun x : Int => [tV x]) i64ok (fun _ => 1) Tryd.underlying76 (by kernel_rfl : Tryd.prog.cellsOf 2 = 1) (fun _ => rfl) (fun n cs y hy => by
    obtain ⟨m, rfl, rfl, hw⟩ := DataW.trod_int Tryd.underlying2 hy
    exact ⟨m, rfl, wf_i64' hw, by simp [Rows.uptoBulk]⟩) o h
  refine ⟨xs, ?_, h2, ?_, h4⟩
  · unfold Tms
    have : ∀ l : List Int, l.flatMap (fun x : Int => [tV x]) = l.map tV := fun l => by induction l <;> simp_all
    rw [← this]
    exact h1
  · have : ∀ l : List Int, (l.map fun _ => 1).sum = l.length := fun l => by induction l <;> simp_all <;> omega
    have := this xs
    omega
end
def OwnT (w : World) (base : Nat) (v : Value) (l : List Int) : Prop := w.ownsRow base 2 1 v l.length (l.map tV)
theorem OwnT.tms {w : World} {base : Nat} {v : Value} {l : List Int} (h : OwnT w base v l) : Tms w v l := RdV.ofOwns h

theorem ownT_shape {w : World} {base n cap : Nat} {ao : Option Addr} {l : List Int} (h : OwnT w base (.slice ao n cap) l) (h0 : 0 < l.length) :
    ∃ g, ao = some ⟨g, 0, none⟩ ∧ base ≤ g ∧ n = l.length ∧ (∀ i, i < l.length → w.cell? ⟨g, i, none⟩ = some (.int .i64 (l.getD i 0))) ∧ (∀ i, w.frozen? ⟨g, i, none⟩ = false) ∧ ∀ i y, OwnT (w.setCell ⟨g, i, none⟩ (tV y)) base (.slice ao n cap) (l.set i y) := by
  have h1 : w.ownsRow base 2 1 (.slice ao n cap) l.length (l.map tV) := h
  rcases h1.2 with ⟨_, hn⟩ | ⟨g, cap', cur, he, hb, rest⟩
  · omega
  · simp only [Value.slice.injEq] at he
    obtain ⟨rfl, hn, rfl⟩ := he
    subst hn
    refine ⟨g, rfl, hb, rfl, fun i hi => ?_, fun i => h1.frozenAt i, fun i y => ?_⟩
    · rw [h1.cellAt i (by omega)]
      simp [hi, tV]
    · have := (h1.stored i (tV y)).1
      unfold OwnT
      rw [List.length_set, List.map_set]
      exact this

end Go.Proofs.YthcgalpabjjkoaaDoor
