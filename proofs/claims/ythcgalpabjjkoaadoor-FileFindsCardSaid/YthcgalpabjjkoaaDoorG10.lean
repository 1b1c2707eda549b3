/- Texts of ours, behind one another: Crc, Pts08, Sum08, BlPlain, REnc08. No conditions but those that each states. -/
import Derived.Test.YthcgalpabjjkoaaDoorG5
import Derived.Test.YthcgalpabjjkoaaDoorG9
import Derived.Test.YthcgalpabjjkoaaDoorG1
import Derived.Test.YthcgalpabjjkoaaDoorG7
import Derived.Test.YthcgalpabjjkoaaDoorG2
import Derived.Test.YthcgalpabjjkoaaDoorG6
import Derived.Test.YthcgalpabjjkoaaDoorG8
import Derived.Deep.QuietTactic
import Derived.BigQuiet
/- XCrc: The CRC-32 in plain words; a turned byte turns it. -/
namespace Go.Proofs.YthcgalpabjjkoaaDoor
open Go.RowKit
set_option linter.unusedVariables false

theorem xor_lt32 {a b : Nat} (ha : a < 4294967296) (hb : b < 4294967296) : a ^^^ b < 4294967296 := Nat.xor_lt_two_pow (n := 32) ha hb
theorem c32_xor (a b : Nat) (ha : a < 4294967296) (hb : b < 4294967296) : Go.bits .xor .u32 (a : Int) (b : Int) = ((a ^^^ b : Nat) : Int) := u32_xor_nat a b ha hb
theorem c32_and1 (a : Nat) (ha : a < 4294967296) : Go.bits .and .u32 (a : Int) 1 = ((a % 2 : Nat) : Int) := by
  have := u32_and_nat a 1 ha (by decide)
  rw [Nat.and_one_is_mod] at this
  exact this

def crcS (c : Nat) : Nat := if c % 2 = 1 then (c / 2) ^^^ 3988292384 else c / 2
theorem crcS_lt {c : Nat} (h : c < 4294967296) : crcS c < 4294967296 := by
  unfold crcS
  split
  · exact xor_lt32 (by omega) (by decide)
  · omega
theorem xor_high (a : Nat) (h : a < 2147483648) : 2147483648 ≤ a ^^^ 3988292384 := by
  have e : (a ^^^ 3988292384).testBit 31 = true := by
    rw [Nat.testBit_xor, Nat.testBit_lt_two_pow (x := a) (i := 31) h]
    rfl
  exact Nat.ge_two_pow_of_testBit e
theorem xor_cancel {a b k : Nat} (h : a ^^^ k = b ^^^ k) : a = b := by
  have : (a ^^^ k) ^^^ k = (b ^^^ k) ^^^ k := by rw [h]
  simpa [Nat.xor_assoc] using this
theorem crcS_inj {a b : Nat} (ha : a < 4294967296) (hb : b < 4294967296) (h : crcS a = crcS b) : a = b := by
  unfold crcS at h
  by_cases h1 : a % 2 = 1
  · rw [if_pos h1] at h
    by_cases h2 : b % 2 = 1
    · rw [if_pos h2] at h
      have := xor_cancel h
      omega
    · rw [if_neg h2] at h
      have := xor_high (a / 2) (by omega)
      omega
  · rw [if_neg h1] at h
    by_cases h2 : b % 2 = 1
    · rw [if_pos h2] at h
      have := xor_high (b / 2) (by omega)
      omega
    · rw [if_neg h2] at h
      omega
def crcN : Nat → Nat → Nat
  | 0, c => c
  | n + 1, c => crcN n (crcS c)
theorem crcN_lt : ∀ (n : Nat) {c : Nat}, c < 4294967296 → crcN n c < 4294967296
  | 0, _, h => h
  | n + 1, _, h => crcN_lt n (crcS_lt h)
theorem crcN_inj : ∀ (n : Nat) {a b : Nat}, a < 4294967296 → b < 4294967296 → crcN n a = crcN n b → a = b
  | 0, _, _, _, _, h => h
  | n + 1, _, _, ha, hb, h => crcS_inj ha hb (crcN_inj n (crcS_lt ha) (crcS_lt hb) h)
theorem crcN_next : ∀ (n c : Nat), crcN (n + 1) c = crcS (crcN n c)
  | 0, _ => rfl
  | n + 1, c => crcN_next n (crcS c)
def crcL : List UInt8 → Nat → Nat
  | [], c => c
  | x :: r, c => crcL r (crcN 8 (c ^^^ x.toNat))
theorem u8_lt32 (x : UInt8) : x.toNat < 4294967296 := by have := x.toNat_lt; omega
theorem crcL_lt : ∀ (bs : List UInt8) {c : Nat}, c < 4294967296 → crcL bs c < 4294967296
  | [], _, h => h
  | x :: r, _, h => crcL_lt r (crcN_lt 8 (xor_lt32 h (u8_lt32 x)))
theorem crcL_inj : ∀ (bs : List UInt8) {a b : Nat}, a < 4294967296 → b < 4294967296 → crcL bs a = crcL bs b → a = b
  | [], _, _, _, _, h => h
  | x :: r, _, _, ha, hb, h => xor_cancel (crcN_inj 8 (xor_lt32 ha (u8_lt32 x)) (xor_lt32 hb (u8_lt32 x)) (crcL_inj r (crcN_lt 8 (xor_lt32 ha (u8_lt32 x))) (crcN_lt 8 (xor_lt32 hb (u8_lt32 x))) h))
theorem crcL_app : ∀ (a b : List UInt8) (c : Nat), crcL (a ++ b) c = crcL b (crcL a c)
  | [], _, _ => rfl
  | x :: r, b, c => crcL_app r b _
theorem crcL_next (bs : List UInt8) (i : Nat) (h : i < bs.length) (c : Nat) : crcL (bs.take (i + 1)) c = crcN 8 (crcL (bs.take i) c ^^^ (bs[i]).toNat) := by
  rw [List.take_succ_eq_append_getElem h, crcL_app]
  rfl
theorem crcL_turn {bs : List UInt8} {j : Nat} (hj : j < bs.length) {z : UInt8} (hz : z ≠ bs[j]) {c : Nat} (hc : c < 4294967296) : crcL (bs.set j z) c ≠ crcL bs c := by
  intro h
  have e1 : bs.set j z = bs.take j ++ (z :: bs.drop (j + 1)) := List.set_eq_take_append_cons_drop ▸ (by rw [if_pos hj])
  have e2 : bs = bs.take j ++ (bs[j] :: bs.drop (j + 1)) := by
    rw [List.getElem_cons_drop, List.take_append_drop]
  have h1 : crcL (bs.take j ++ (z :: bs.drop (j + 1))) c = crcL (bs.take j ++ (bs[j] :: bs.drop (j + 1))) c := by
    rw [← e1, ← e2]; exact h
  rw [crcL_app, crcL_app] at h1
  have hp := crcL_lt (bs.take j) hc
  have h2 : crcL (bs.drop (j + 1)) (crcN 8 (crcL (bs.take j) c ^^^ z.toNat)) = crcL (bs.drop (j + 1)) (crcN 8 (crcL (bs.take j) c ^^^ (bs[j]).toNat)) := h1
  have h3 := crcN_inj 8 (xor_lt32 hp (u8_lt32 _)) (xor_lt32 hp (u8_lt32 _)) (crcL_inj _ (crcN_lt 8 (xor_lt32 hp (u8_lt32 _))) (crcN_lt 8 (xor_lt32 hp (u8_lt32 _))) h2)
  have h4 : z.toNat = (bs[j]).toNat := by
    rw [Nat.xor_comm _ z.toNat, Nat.xor_comm _ (bs[j]).toNat] at h3
    exact xor_cancel h3
  exact hz (UInt8.toNat_inj.1 h4)
def crc (bs : List UInt8) : Nat := 4294967295 - crcL bs 4294967295
theorem crc_lt (bs : List UInt8) : crc bs < 4294967296 := by unfold crc; omega
theorem crc_turn {bs : List UInt8} {j : Nat} (hj : j < bs.length) {z : UInt8} (hz : z ≠ bs[j]) : crc (bs.set j z) ≠ crc bs := by
  intro h
  have h1 := crcL_lt (bs.set j z) (c := 4294967295) (by omega)
  have h2 := crcL_lt bs (c := 4294967295) (by omega)
  unfold crc at h
  exact crcL_turn hj hz (c := 4294967295) (by omega) (by omega)
theorem c32_ones (a : Nat) (ha : a < 4294967296) : Go.bits .xor .u32 4294967295 (a : Int) = ((4294967295 - a : Nat) : Int) := by
  have h1 := c32_xor 4294967295 a (by omega) ha
  have h2 : 4294967295 ^^^ a = 4294967295 - a := by
    have h : (BitVec.ofNat 32 a ^^^ BitVec.allOnes 32).toNat = (~~~ BitVec.ofNat 32 a).toNat := by rw [BitVec.xor_allOnes]
    have h3 : a ^^^ 4294967295 = 4294967295 - a := by
      simpa [BitVec.toNat_xor, BitVec.toNat_not, BitVec.toNat_allOnes, Nat.mod_eq_of_lt ha] using h
    rw [Nat.xor_comm]; exact h3
  rw [h2] at h1
  exact h1
end Go.Proofs.YthcgalpabjjkoaaDoor

/- XPts08: Points: what they read as, how an argument is opened, SamePoints. -/
namespace Go.Proofs.YthcgalpabjjkoaaDoor
open Go.RowKit Go.ChangeShapes Go.WideShapes Go.ChangeAt
set_option linter.unusedVariables false
set_option maxRecDepth 20000

structure Pn where
  t : Int
  v : Va
def Pn.cells (p : Pn) : List Value := [.int .i64 p.t, .int .i64 p.v.k, .int .u64 (p.v.b : Int), .string p.v.t]
def Pn.ok (p : Pn) : Prop := i64ok p.t ∧ p.v.ok
def p0 : Pn := ⟨0, v0⟩
def Pns (w : World) (v : Value) (l : List Pn) : Prop := RdV w 4 v l.length (l.flatMap Pn.cells)
theorem Pns.below {w w' : World} {v : Value} {l : List Pn} (h : Pns w v l) (hb : Below w.heap.size w w') : Pns w' v l := RdV.below h hb
theorem pn_at {w : World} {v : Value} {l : List Pn} (h : Pns w v l) (i : Nat) (hi : i < l.length) :
    ∃ b off cap, v = .slice (some ⟨b, off, none⟩) l.length cap ∧ b < w.heap.size ∧ w.cell? ⟨b, off + i * 4, none⟩ = some (.int .i64 (l.getD i p0).t) ∧ w.cell? ⟨b, off + i * 4 + 1, none⟩ = some (.int .i64 (l.getD i p0).v.k) ∧ w.cell? ⟨b, off + i * 4 + 2, none⟩ = some (.int .u64 ((l.getD i p0).v.b : Int)) ∧ w.cell? ⟨b, off + i * 4 + 3, none⟩ = some (.string (l.getD i p0).v.t) := by
  obtain ⟨b, off, cap, rfl, _, _, hb, hc⟩ := RdV.some h (by omega) (by decide)
  have e0 := flat_at Pn.cells 4 (fun _ => rfl) l i hi 0 (by omega)
  have e1 := flat_at Pn.cells 4 (fun _ => rfl) l i hi 1 (by omega)
  have e2 := flat_at Pn.cells 4 (fun _ => rfl) l i hi 2 (by omega)
  have e3 := flat_at Pn.cells 4 (fun _ => rfl) l i hi 3 (by omega)
  rw [getD_get l i p0 hi]
  exact ⟨b, off, cap, rfl, hb, hc _ _ e0, hc _ _ e1, hc _ _ e2, hc _ _ e3⟩
def tsP (l : List Pn) : List Int := l.map Pn.t
def vsP (l : List Pn) : List Va := l.map Pn.v
theorem tsP_len (l : List Pn) : (tsP l).length = l.length := by simp [tsP]
theorem vsP_len (l : List Pn) : (vsP l).length = l.length := by simp [vsP]
theorem tsP_ok {l : List Pn} (h : ∀ p ∈ l, p.ok) : ∀ x ∈ tsP l, i64ok x := by
  intro x hx
  obtain ⟨p, hp, rfl⟩ := List.mem_map.1 hx
  exact (h p hp).1
theorem vsP_ok {l : List Pn} (h : ∀ p ∈ l, p.ok) : ∀ x ∈ vsP l, x.ok := by
  intro x hx
  obtain ⟨p, hp, rfl⟩ := List.mem_map.1 hx
  exact (h p hp).2

section
variable {H : Type} {enc : TypeId × Value → H} {W : World}
theorem trod_f3 {P : Program} {w : World} {base : Nat} {spare : Nat → Bool} {held : Bool} {t : TypeId} {f0 f1 f2 : Field} {fuel : Nat} {cs : List Value} {x : DataW H × List MemPlace} (ht : P.underlying t = some (.struct #[f0, f1, f2])) (h : DataW.trod enc P w base spare held fuel t cs = some x) :
    ∃ y0 y1 y2 n, x = (.agg [y0.1, y1.1, y2.1], y0.2 ++ (y1.2 ++ y2.2)) ∧ cs.length = P.cellsOf t ∧ DataW.trod enc P w base spare held n f0.type ((cs.drop f0.offset).take (P.cellsOf f0.type)) = some y0 ∧
      DataW.trod enc P w base spare held n f1.type ((cs.drop f1.offset).take (P.cellsOf f1.type)) = some y1 ∧ DataW.trod enc P w base spare held n f2.type ((cs.drop f2.offset).take (P.cellsOf f2.type)) = some y2 := by
  obtain ⟨xs, n, _, rfl, hl, hlen, hf⟩ := DataW.trod_struct ht h
  match xs, hlen with
  | [y0, y1, y2], _ => exact ⟨y0, y1, y2, n, by simp, hl, by simpa using hf 0 f0 rfl, by simpa using hf 1 f1 rfl, by simpa using hf 2 f2 rfl⟩
theorem trod_f2 {P : Program} {w : World} {base : Nat} {spare : Nat → Bool} {held : Bool} {t : TypeId} {f0 f1 : Field} {fuel : Nat} {cs : List Value} {x : DataW H × List MemPlace} (ht : P.underlying t = some (.struct #[f0, f1])) (h : DataW.trod enc P w base spare held fuel t cs = some x) :
    ∃ y0 y1 n, x = (.agg [y0.1, y1.1], y0.2 ++ y1.2) ∧ cs.length = P.cellsOf t ∧ DataW.trod enc P w base spare held n f0.type ((cs.drop f0.offset).take (P.cellsOf f0.type)) = some y0 ∧
      DataW.trod enc P w base spare held n f1.type ((cs.drop f1.offset).take (P.cellsOf f1.type)) = some y1 := by
  obtain ⟨xs, n, _, rfl, hl, hlen, hf⟩ := DataW.trod_struct ht h
  match xs, hlen with
  | [y0, y1], _ => exact ⟨y0, y1, n, by simp, hl, by simpa using hf 0 f0 rfl, by simpa using hf 1 f1 rfl⟩
theorem trod_va {n : Nat} {cs : List Value} {y : DataW H × List MemPlace} (hy : DataW.trod enc Tryd.prog W 0 (fun _ => true) true n 27 cs = some y) : ∃ v : Va, cs = v.cells ∧ v.ok := by
  obtain ⟨y0, y1, y2, m, rfl, hl, e0, e1, e2⟩ := trod_f3 Tryd.underlying27 hy
  obtain ⟨a, ha, rfl, wa⟩ := DataW.trod_int Tryd.underlying3 e0
  obtain ⟨b, hb, rfl, wb⟩ := DataW.trod_int Tryd.underlying25 e1
  obtain ⟨c, hc, rfl, _⟩ := DataW.trod_string Tryd.underlying9 e2
  have hcl : Tryd.prog.cellsOf 27 = 3 := by kernel_rfl
  have h1c : Tryd.prog.cellsOf 9 = 1 := by kernel_rfl
  have h2c : Tryd.prog.cellsOf 3 = 1 := by kernel_rfl
  have h3c : Tryd.prog.cellsOf 25 = 1 := by kernel_rfl
  rw [hcl] at hl
  simp only [h1c, h2c, h3c] at ha hb hc
  match cs, hl with
  | [c0, c1, c2], _ =>
    simp at ha hb hc
    subst ha; subst hb; subst hc
    have h8 := wf_u64' wb
    exact ⟨⟨a, b.toNat, c⟩, by simp [Va.cells]; omega, ⟨wf_i64' wa, by dsimp only; omega⟩⟩
theorem trod_pn {n : Nat} {cs : List Value} {y : DataW H × List MemPlace} (hy : DataW.trod enc Tryd.prog W 0 (fun _ => true) true n 29 cs = some y) : ∃ p : Pn, cs = p.cells ∧ p.ok := by
  obtain ⟨y0, y1, m, rfl, hl, e0, e1⟩ := trod_f2 Tryd.underlying29 hy
  obtain ⟨a, ha, rfl, wa⟩ := DataW.trod_int Tryd.underlying2 e0
  obtain ⟨v, hv, hok⟩ := trod_va e1
  have hcl : Tryd.prog.cellsOf 29 = 4 := by kernel_rfl
  have h2c : Tryd.prog.cellsOf 2 = 1 := by kernel_rfl
  have h3c : Tryd.prog.cellsOf 27 = 3 := by kernel_rfl
  rw [hcl] at hl
  simp only [h2c, h3c] at ha hv
  match cs, hl with
  | [c0, c1, c2, c3], _ =>
    simp [Va.cells] at ha hv
    obtain ⟨h1, h2, h3⟩ := hv
    subst ha; subst h1; subst h2; subst h3
    exact ⟨⟨a, v⟩, rfl, wf_i64' wa, hok⟩
theorem open_pns {v : Value} {b0 : Nat} {d : DataW H} {ps : List MemPlace} (o : Value.okWide Tryd.prog W .any b0 24 v) (h : DataW.Trod enc Tryd.prog W 0 (fun _ => true) true 24 v d ps)
    (hsz : (DataW.weights Tryd.prog 24 d).all (· ≤ reachBytes) = true) :
    ∃ l : List Pn, Pns W v l ∧ (∀ x ∈ l, x.ok) ∧ l.length * 40 ≤ 140737488351232 := by
  obtain ⟨xs, h1, h2, h3, h4⟩ := open_flat Pn.cells Pn.ok (fun t => 0) Tryd.underlying24 (by kernel_rfl : Tryd.prog.cellsOf 29 = 4) (fun _ => rfl) (fun n cs y hy => by
    obtain ⟨p, hp, hok⟩ := trod_pn hy
    exact ⟨p, hp, hok, Nat.zero_le _⟩) o h
  refine ⟨xs, h1, h2, ?_⟩
  rcases h4 with ⟨_, _, rfl⟩ | ⟨els, sp, rfl, hl⟩
  · simp
  · have hb : Tryd.prog.bytesOf 29 = 40 := by kernel_rfl
    have := List.all_eq_true.1 hsz ((els.length + sp.length) * Tryd.prog.bytesOf 29) (by simp [DataW.weights, Tryd.underlying24])
    rw [hb] at this
    have h9 := of_decide_eq_true this
    unfold reachBytes at h9
    omega
end

set_option maxHeartbeats 1000000 in
theorem samePn_any (l : List Pn) (a b : Value) (w : World) (ha : Pns w a l) (hb : Pns w b l) :
    Calls Tryd.prog 11 #[a, b] w fun e w' => e = .returned (.bool true) ∧ ∃ m, w' = w.drewN m := by
  obtain ⟨ao, ac, rfl, hn, hac⟩ := RdV.shape ha
  obtain ⟨bo, bc, rfl, hbn, hbc⟩ := RdV.shape hb
  unfold maxLen at hac hbc
  obtain ⟨n, hnl⟩ : ∃ n, n = l.length := ⟨_, rfl⟩
  have HN := Lib.hid hnl
  have HA := Lib.hid ha
  have HB := Lib.hid hb
  rw [← hnl] at hn hbn ⊢
  clear ha hb hnl
  go_enter Tryd.func11, Tryd.ntmps11
  go_wp2_with fail
  go_loopg [13] n (fun m s13 wr => ∃ k : Nat, k + m = n ∧ s13 = .int .i64 k ∧ ∃ q, wr = w.drewN q)
  case atStart => exact ⟨0, by omega, rfl, 0, rfl⟩
  case round =>
    obtain ⟨k, hk, rfl, q, rfl⟩ := hrel
    by_cases h0 : gk = 0
    · obtain rfl : k = n := by omega
      go_wp2_with fail
      go_ret
      exact ⟨rfl, q, rfl⟩
    · have hkn : k < n := by omega
      obtain ⟨b1, off1, c1, he1, hb1, hv0, hv1, hv2, hv3⟩ := pn_at HA.out k (by rw [← HN.out]; exact hkn)
      obtain ⟨b2, off2, c2, he2, hb2, hw0, hw1, hw2, hw3⟩ := pn_at HB.out k (by rw [← HN.out]; exact hkn)
      rw [← HN.out] at he1 he2
      simp only [Value.slice.injEq, true_and] at he1 he2
      obtain ⟨rfl, rfl⟩ := he1
      obtain ⟨rfl, rfl⟩ := he2
      generalize (l.getD k p0).t = pt at *
      generalize (l.getD k p0).v.k = kk at *
      generalize (l.getD k p0).v.t = tt at *
      generalize (l.getD k p0).v.b = y1 at *
      go_upto_region 6 with fail
      go_quiet (fail)
      go_wp2_with fail
      go_roundg (gk - 1)
      case measure => go_light; omega
      case rel =>
        go_light
        exact ⟨k + 1, by omega, by go_num, _, rfl⟩
end Go.Proofs.YthcgalpabjjkoaaDoor

/- XSum08: block.Sum, gristref08.Sum. -/
namespace Go.Proofs.YthcgalpabjjkoaaDoor
open Go.RowKit
set_option linter.unusedVariables false

set_option maxHeartbeats 800000 in
theorem sum_any (bs : List UInt8) (v : Value) (w : World) (hr : Rd w v bs) :
    Calls Tryd.prog 17 #[v] w fun e w' => e = .returned (.int .u32 (crc bs : Int)) ∧ ∃ m, w' = w.drewN m := by
  obtain ⟨ao0, cap0, rfl, hnc, hcm⟩ := RdV.shape hr
  unfold maxLen at hcm
  go_enter Tryd.func17, Tryd.ntmps17
  go_wp2_with fail
  go_loopg [3, 5, 8] bs.length (fun m s3 s5 s8 wr => ∃ k : Nat, k + m = bs.length ∧ s8 = .int .i64 (k : Int) ∧ s3 = .int .u32 ((crcL (bs.take k) 4294967295 : Nat) : Int) ∧ ∃ q, wr = w.drewN q)
  case atStart => exact ⟨0, by omega, rfl, rfl, 0, rfl⟩
  case round =>
    obtain ⟨k, hk, rfl, rfl, q, rfl⟩ := hrel
    have hlt := crcL_lt (bs.take k) (c := 4294967295) (by omega)
    by_cases h0 : gk = 0
    · obtain rfl : k = bs.length := by omega
      have hon := c32_ones _ hlt
      rw [List.take_length] at hon ⊢
      have HCR : Hid (crc bs = 4294967295 - crcL bs 4294967295) := Lib.hid rfl
      clear hk
      generalize crcL bs 4294967295 = C at *
      go_wp2_with fail
      go_ret
      exact ⟨by rw [HCR.out]; exact congrArg (fun z => Ending.returned (.int .u32 z)) hon, q, rfl⟩
    · have hkn : k < bs.length := by omega
      obtain ⟨m0, hm0⟩ : ∃ m, m + 1 = gk := ⟨gk - 1, by omega⟩
      obtain ⟨b, off, cap', he, hc⟩ := rdOne hr k hkn
      simp only [Value.slice.injEq, true_and] at he
      obtain ⟨rfl, rfl⟩ := he
      have HNX := Lib.hid (crcL_next bs k hkn 4294967295)
      generalize crcL (bs.take k) 4294967295 = C at *
      generalize bs[k] = X at *
      have hX := X.toNat_lt
      have hxo := c32_xor C X.toNat hlt (by omega)
      have hdl := xor_lt32 hlt (u8_lt32 X)
      have hc' : (w.drewN q).cell? ⟨b, off + k, none⟩ = some (bV X) := hc
      unfold bV at hc'
      clear hc
      generalize X.toNat = x at *
      generalize C ^^^ x = D at *
      go_wp2_with fail
      go_loopg [3, 16] 8 (fun m s3 s16 wr => ∃ i : Nat, i + m = 8 ∧ s16 = .int .i64 (i : Int) ∧ s3 = .int .u32 ((crcN i D : Nat) : Int) ∧ ∃ q', wr = w.drewN q')
      case atStart => exact ⟨0, by omega, rfl, rfl, _, rfl⟩
      case round =>
        obtain ⟨i, hi, rfl, rfl, q2, rfl⟩ := hrel
        have hlt2 := crcN_lt i hdl
        clear h0
        by_cases h0 : gk = 0
        · obtain rfl : i = 8 := by omega
          clear hxo hc' hi
          go_wp2_with fail
          go_roundg m0
          case measure => go_light; omega
          case rel =>
            go_light
            exact ⟨k + 1, by omega, by go_num, by rw [HNX.out], q2, rfl⟩
        · have hi8 : i < 8 := by omega
          have HN2 := Lib.hid (crcN_next i D)
          generalize crcN i D = E at *
          have hand := c32_and1 E hlt2
          have hc2 : ((E / 2 : Nat) : Int) = (E : Int) / 2 := by omega
          clear hxo hc'
          by_cases hod : E % 2 = 1
          · have HS : Hid (crcS E = (E / 2) ^^^ 3988292384) := Lib.hid (by unfold crcS; rw [if_pos hod])
            rw [hod] at hand
            have hx2 := c32_xor (E / 2) 3988292384 (by omega) (by omega)
            rw [hc2] at hx2
            clear hc2
            go_wp2_with fail
            go_roundg (gk - 1)
            case measure => go_light; omega
            case rel =>
              go_light
              exact ⟨i + 1, by omega, by go_num, by rw [HN2.out, HS.out]; try exact congrArg (Value.int .u32) hx2, _, rfl⟩
          · have HS : Hid (crcS E = E / 2) := Lib.hid (by unfold crcS; rw [if_neg hod])
            have hod2 : E % 2 = 0 := by omega
            rw [hod2] at hand
            have hx2 := c32_xor (E / 2) 0 (by omega) (by omega)
            rw [hc2, Nat.xor_zero, hc2] at hx2
            go_wp2_with fail
            go_roundg (gk - 1)
            case measure => go_light; omega
            case rel =>
              go_light
              exact ⟨i + 1, by omega, by go_num, by rw [HN2.out, HS.out]; first | exact congrArg (Value.int .u32) hc2.symm | exact congrArg (Value.int .u32) (hx2.trans hc2.symm), _, rfl⟩
set_option maxHeartbeats 800000 in
theorem rsum_any (bs : List UInt8) (v : Value) (w : World) (hr : Rd w v bs) :
    Calls Tryd.prog 24 #[v] w fun e w' => e = .returned (.int .u32 (crc bs : Int)) ∧ ∃ m, w' = w.drewN m := by
  obtain ⟨ao0, cap0, rfl, hnc, hcm⟩ := RdV.shape hr
  unfold maxLen at hcm
  go_enter Tryd.func24, Tryd.ntmps24
  go_wp2_with fail
  go_loopg [3, 4, 7] bs.length (fun m s3 s4 s7 wr => ∃ k : Nat, k + m = bs.length ∧ s7 = .int .i64 (k : Int) ∧ s3 = .int .u32 ((crcL (bs.take k) 4294967295 : Nat) : Int) ∧ ∃ q, wr = w.drewN q)
  case atStart => exact ⟨0, by omega, rfl, rfl, 0, rfl⟩
  case round =>
    obtain ⟨k, hk, rfl, rfl, q, rfl⟩ := hrel
    have hlt := crcL_lt (bs.take k) (c := 4294967295) (by omega)
    by_cases h0 : gk = 0
    · obtain rfl : k = bs.length := by omega
      have hon := c32_ones _ hlt
      rw [List.take_length] at hon ⊢
      have HCR : Hid (crc bs = 4294967295 - crcL bs 4294967295) := Lib.hid rfl
      clear hk
      generalize crcL bs 4294967295 = C at *
      go_wp2_with fail
      go_ret
      exact ⟨by rw [HCR.out]; exact congrArg (fun z => Ending.returned (.int .u32 z)) hon, q, rfl⟩
    · have hkn : k < bs.length := by omega
      obtain ⟨m0, hm0⟩ : ∃ m, m + 1 = gk := ⟨gk - 1, by omega⟩
      obtain ⟨b, off, cap', he, hc⟩ := rdOne hr k hkn
      simp only [Value.slice.injEq, true_and] at he
      obtain ⟨rfl, rfl⟩ := he
      have HNX := Lib.hid (crcL_next bs k hkn 4294967295)
      generalize crcL (bs.take k) 4294967295 = C at *
      generalize bs[k] = X at *
      have hX := X.toNat_lt
      have hxo := c32_xor C X.toNat hlt (by omega)
      have hdl := xor_lt32 hlt (u8_lt32 X)
      have hc' : (w.drewN q).cell? ⟨b, off + k, none⟩ = some (bV X) := hc
      unfold bV at hc'
      clear hc
      generalize X.toNat = x at *
      generalize C ^^^ x = D at *
      go_wp2_with fail
      go_loopg [3, 17] 8 (fun m s3 s17 wr => ∃ i : Nat, i + m = 8 ∧ s17 = .int .i64 (i : Int) ∧ s3 = .int .u32 ((crcN i D : Nat) : Int) ∧ ∃ q', wr = w.drewN q')
      case atStart => exact ⟨0, by omega, rfl, rfl, _, rfl⟩
      case round =>
        obtain ⟨i, hi, rfl, rfl, q2, rfl⟩ := hrel
        have hlt2 := crcN_lt i hdl
        clear h0
        by_cases h0 : gk = 0
        · obtain rfl : i = 8 := by omega
          clear hxo hc' hi
          go_wp2_with fail
          go_roundg m0
          case measure => go_light; omega
          case rel =>
            go_light
            exact ⟨k + 1, by omega, by go_num, by rw [HNX.out], q2, rfl⟩
        · have hi8 : i < 8 := by omega
          have HN2 := Lib.hid (crcN_next i D)
          generalize crcN i D = E at *
          have hand := c32_and1 E hlt2
          have hc2 : ((E / 2 : Nat) : Int) = (E : Int) / 2 := by omega
          clear hxo hc'
          by_cases hod : E % 2 = 1
          · have HS : Hid (crcS E = (E / 2) ^^^ 3988292384) := Lib.hid (by unfold crcS; rw [if_pos hod])
            rw [hod] at hand
            have hx2 := c32_xor (E / 2) 3988292384 (by omega) (by omega)
            rw [hc2] at hx2
            clear hc2
            go_wp2_with fail
            go_roundg (gk - 1)
            case measure => go_light; omega
            case rel =>
              go_light
              exact ⟨i + 1, by omega, by go_num, by rw [HN2.out, HS.out]; try exact congrArg (Value.int .u32) hx2, _, rfl⟩
          · have HS : Hid (crcS E = E / 2) := Lib.hid (by unfold crcS; rw [if_neg hod])
            have hod2 : E % 2 = 0 := by omega
            rw [hod2] at hand
            have hx2 := c32_xor (E / 2) 0 (by omega) (by omega)
            rw [hc2, Nat.xor_zero, hc2] at hx2
            go_wp2_with fail
            go_roundg (gk - 1)
            case measure => go_light; omega
            case rel =>
              go_light
              exact ⟨i + 1, by omega, by go_num, by rw [HN2.out, HS.out]; first | exact congrArg (Value.int .u32) hc2.symm | exact congrArg (Value.int .u32) (hx2.trans hc2.symm), _, rfl⟩
end Go.Proofs.YthcgalpabjjkoaaDoor

/- XBlPlain: What block.Encode writes, in plain words; gristref01.Four. -/
namespace Go.Proofs.YthcgalpabjjkoaaDoor
open Go.RowKit
set_option linter.unusedVariables false

theorem beN_app (a b v : Nat) : beN (a + b) v = beN a (v / 2 ^ (8 * b)) ++ beN b v := by
  unfold beN
  rw [show 8 * (a + b) = 8 * a + 8 * b by omega, bitsOf_split, pack8_append _ _ (by simp)]
theorem beN_one (v : Nat) : beN 1 v = [UInt8.ofNat v] := by
  unfold beN
  rw [pack8_one _ (by intro h; have := congrArg List.length h; simp at this) (by simp), num_bitsOf]
  simp only [length_bitsOf, Nat.mul_one, Nat.sub_self, Nat.pow_zero]
  congr 1
  apply UInt8.toNat_inj.1
  simp
theorem beN_four (v : Nat) : beN 4 v = [UInt8.ofNat (v / 16777216), UInt8.ofNat (v / 65536), UInt8.ofNat (v / 256), UInt8.ofNat v] := by
  rw [show 4 = 2 + 2 by rfl, beN_app 2 2, beN_two, beN_two]
  rw [Nat.div_div_eq_div_mul]
  rfl

set_option maxHeartbeats 400000 in
theorem four_any (n : Nat) (hn : n < 4294967296) (w : World) :
    Calls Tryd.prog 20 #[.int .i64 (n : Int)] w fun e w' => ∃ ao cap, e = .returned (.slice ao (beN 4 n).length cap) ∧ Own w' w.heap.size (.slice ao (beN 4 n).length cap) (beN 4 n) ∧ Below w.heap.size w w' := by
  have e1 : ((UInt8.ofNat (n / 16777216)).toNat : Int) = (n : Int) / 16777216 := by rw [UInt8.toNat_ofNat']; omega
  have e2 : ((UInt8.ofNat (n / 65536)).toNat : Int) = (n : Int) / 65536 % 256 := by rw [UInt8.toNat_ofNat']; omega
  have e3 : ((UInt8.ofNat (n / 256)).toNat : Int) = (n : Int) / 256 % 256 := by rw [UInt8.toNat_ofNat']; omega
  have e4 : ((UInt8.ofNat n).toNat : Int) = (n : Int) % 256 := by rw [UInt8.toNat_ofNat']; omega
  have HE1 := Lib.hid e1
  have HE2 := Lib.hid e2
  have HE3 := Lib.hid e3
  have HE4 := Lib.hid e4
  clear e1 e2 e3 e4
  go_enter Tryd.func20, Tryd.ntmps20
  go_wp2_with fail
  go_ret
  refine ⟨some ⟨w.heap.size, 0, none⟩, 4, by rw [beN_len]; rfl, ?_, (Below.refl w.heap.size w).alloc (Nat.le_refl _) _⟩
  rw [beN_four]
  unfold Own
  simp only [List.map_cons, List.map_nil, bV, HE1.out, HE2.out, HE3.out, HE4.out]
  exact World.ownsRow_lit w _ 4 (Nat.le_refl _) (by decide) rfl

/-- What stands in a block ahead of its sum. -/
def bodB (k : Int) (t v : List UInt8) : List UInt8 := UInt8.ofNat k.toNat :: (beN 4 t.length ++ (t ++ v))
def sealB (b : List UInt8) : List UInt8 := b ++ beN 4 (crc b)
def encP (l : List Pn) : List UInt8 × Nat :=
  match encS (tsP l) with
  | none => ([], 1)
  | some t => if (encC (vsP l)).2 = 0 then (sealB (bodB ((vsP l).getD 0 v0).k t (encC (vsP l)).1), 0) else ([], (encC (vsP l)).2)
def BeEnd (l : List Pn) (w : World) (e : Ending) (w' : World) : Prop :=
  Below w.heap.size w w' ∧ ∃ ao cap, e = .returned (.tuple #[.slice ao (encP l).1.length cap, .int .i64 ((encP l).2 : Int)]) ∧ Own w' w.heap.size (.slice ao (encP l).1.length cap) (encP l).1
theorem bodB_len (k : Int) (t v : List UInt8) : (bodB k t v).length = 5 + (t.length + v.length) := by
  unfold bodB
  rw [List.length_cons, List.length_append, List.length_append, beN_len]
  omega
theorem sealB_len (b : List UInt8) : (sealB b).length = b.length + 4 := by
  unfold sealB
  rw [List.length_append, beN_len]
theorem encP_times {l : List Pn} (h : encS (tsP l) = none) : encP l = ([], 1) := by unfold encP; rw [h]
theorem encP_vals {l : List Pn} {t : List UInt8} (h : encS (tsP l) = some t) (h2 : (encC (vsP l)).2 ≠ 0) : encP l = ([], (encC (vsP l)).2) := by unfold encP; rw [h]; exact if_neg h2
theorem encP_ok {l : List Pn} {t v : List UInt8} (h : encS (tsP l) = some t) (h2 : encC (vsP l) = (v, 0)) : encP l = (sealB (bodB ((vsP l).getD 0 v0).k t v), 0) := by unfold encP; rw [h, h2]; rfl
theorem encC_kind {l : List Va} {b : List UInt8} (h : encC l = (b, 0)) : 1 ≤ (l.getD 0 v0).k ∧ (l.getD 0 v0).k ≤ 4 := by
  obtain ⟨h1, h2, _⟩ := encC_fits h
  have := formV_kind (List.all_eq_true.1 h2 _ (getD_mem l 0 v0 (by omega)))
  omega
end Go.Proofs.YthcgalpabjjkoaaDoor

/- XREnc08: gristref08.Encode. -/
namespace Go.Proofs.YthcgalpabjjkoaaDoor
open Go.RowKit
set_option linter.unusedVariables false

theorem RdV.chgLit {S : Nat → Prop} {w w' : World} {size n b o cap : Nat} {xs : List Value} (h : RdV w size (.slice (Option.some ⟨b, o, none⟩) n cap) n xs) (hc : Chg S w w') (hS : ¬ S b) : RdV w' size (.slice (Option.some ⟨b, o, none⟩) n cap) n xs := by
  obtain ⟨h1, ao, cap', he, h2, h3, h4, h5⟩ := h
  refine ⟨h1, ao, cap', he, h2, h3, h4, fun a ha j u hu => ?_⟩
  obtain ⟨e1, e2, e3⟩ := h5 a ha j u hu
  simp only [Value.slice.injEq] at he
  obtain ⟨rfl, _⟩ := he
  cases ha
  exact ⟨e1, Nat.lt_of_lt_of_le e2 hc.size, (hc.cell (p := ⟨b, o + j, none⟩) e2 hS).trans e3⟩
def CP (b o : Nat) (t k : Int) (u : Nat) (s : ByteArray) (w : World) : Prop := w.cell? ⟨b, o, none⟩ = some (.int .i64 t) ∧ w.cell? ⟨b, o + 1, none⟩ = some (.int .i64 k) ∧ w.cell? ⟨b, o + 2, none⟩ = some (.int .u64 (u : Int)) ∧ w.cell? ⟨b, o + 3, none⟩ = some (.string s)
theorem CP.below {B b o : Nat} {t k : Int} {u : Nat} {s : ByteArray} {w w' : World} (h : CP b o t k u s w) (hl : b < B) (hb : Below B w w') : CP b o t k u s w' :=
  ⟨(hb.cell (p := ⟨b, o, none⟩) hl).trans h.1, (hb.cell (p := ⟨b, o + 1, none⟩) hl).trans h.2.1, (hb.cell (p := ⟨b, o + 2, none⟩) hl).trans h.2.2.1, (hb.cell (p := ⟨b, o + 3, none⟩) hl).trans h.2.2.2⟩
theorem take_more {α : Type} (l : List α) (d : α) (k : Nat) (h : k < l.length) : l.take (k + 1) = l.take k ++ [l.getD k d] := by
  rw [List.take_succ_eq_append_getElem h, getD_get l k d h]
theorem tsP_get (l : List Pn) (k : Nat) (h : k < l.length) : (tsP l).getD k 0 = (l.getD k p0).t := by
  rw [getD_get (tsP l) k 0 (by rw [tsP_len]; exact h), getD_get l k p0 h]
  simp [tsP]
theorem vsP_get (l : List Pn) (k : Nat) (h : k < l.length) : (vsP l).getD k v0 = (l.getD k p0).v := by
  rw [getD_get (vsP l) k v0 (by rw [vsP_len]; exact h), getD_get l k p0 h]
  simp [vsP]

@[reducible, go_sem] def opREnc080 : Oper := { dst := some 49, op := Op.move (Operand.tmp 5), type := 77, pos := "ref.go:36", after := #[], guard := none }
@[reducible, go_sem] def opREnc081 : Oper := { dst := some 50, op := Op.indexAddr 77 (Operand.tmp 49) (Operand.const (Value.int IntKind.i64 0)), type := 0, pos := "ref.go:36", after := #[{ on := 0, ground := Ground.data }], guard := none }
@[reducible, go_sem] def opREnc082 : Oper := { dst := some 51, op := Op.fieldAddr 27 (Operand.tmp 50) 0, type := 0, pos := "ref.go:36", after := #[{ on := 1, ground := Ground.data }], guard := none }
@[reducible, go_sem] def opREnc083 : Oper := { dst := some 52, op := Op.load 3 (Operand.tmp 51), type := 3, pos := "ref.go:36", after := #[{ on := 2, ground := Ground.data }], guard := none }
@[reducible, go_sem] def opREnc084 : Oper := { dst := some 53, op := Op.convert 3 5 (Operand.tmp 52), type := 5, pos := "ref.go:36", after := #[{ on := 3, ground := Ground.data }], guard := none }
@[reducible, go_sem] def opREnc085 : Oper := { dst := some 55, op := Op.move (Operand.tmp 7), type := 33, pos := "ref.go:36", after := #[], guard := none }
@[reducible, go_sem] def opREnc086 : Oper := { dst := some 56, op := Op.call { callee := Callee.builtin Builtin.len, args := #[Operand.tmp 55], argTypes := #[33] }, type := 3, pos := "ref.go:36", after := #[{ on := 6, ground := Ground.data }], guard := none }
@[reducible, go_sem] def opREnc087 : Oper := { dst := some 58, op := Op.move (Operand.tmp 7), type := 33, pos := "ref.go:36", after := #[], guard := none }
@[reducible, go_sem] def opREnc088 : Oper := { dst := some 59, op := Op.move (Operand.tmp 9), type := 33, pos := "ref.go:36", after := #[], guard := none }
@[reducible, go_sem] def opREnc089 : Oper := { dst := some 54, op := Op.buildSlice 33 1 #[(0, Operand.tmp 53)], type := 33, pos := "ref.go:36", after := #[{ on := 4, ground := Ground.data }], guard := none }
@[reducible, go_sem] def opREnc0810 : Oper := { dst := some 57, op := Op.call { callee := Callee.value (Operand.func 20), args := #[Operand.tmp 56], argTypes := #[3] }, type := 33, pos := "ref.go:36", after := #[{ on := 7, ground := Ground.data }], guard := none }
@[reducible, go_sem] def opREnc0811 : Oper := { dst := some 60, op := Op.buildSlice 80 4 #[(0, Operand.tmp 54), (1, Operand.tmp 57), (2, Operand.tmp 58), (3, Operand.tmp 59)], type := 80, pos := "ref.go:36", after := #[{ on := 5, ground := Ground.data }, { on := 8, ground := Ground.data }, { on := 9, ground := Ground.data }, { on := 10, ground := Ground.data }], guard := none }
@[reducible, go_sem] def opREnc0812 : Oper := { dst := some 61, op := Op.call { callee := Callee.value (Operand.func 23), args := #[Operand.tmp 60], argTypes := #[80] }, type := 33, pos := "ref.go:36", after := #[{ on := 11, ground := Ground.data }, { on := 8, ground := Ground.chain }], guard := none }
@[reducible, go_sem] def opREnc0813 : Oper := { dst := some 10, op := Op.assign (Operand.tmp 61), type := 33, pos := "ref.go:36", after := #[{ on := 12, ground := Ground.data }, { on := 12, ground := Ground.chain }, { on := 0, ground := Ground.phase }, { on := 1, ground := Ground.phase }, { on := 2, ground := Ground.phase }, { on := 3, ground := Ground.phase }, { on := 4, ground := Ground.phase }, { on := 5, ground := Ground.phase }, { on := 6, ground := Ground.phase }, { on := 7, ground := Ground.phase }, { on := 8, ground := Ground.phase }, { on := 9, ground := Ground.phase }, { on := 10, ground := Ground.phase }, { on := 11, ground := Ground.phase }, { on := 12, ground := Ground.phase }], guard := none }
@[reducible, go_sem] def opREnc0814 : Oper := { dst := some 16, op := Op.move (Operand.tmp 4), type := 76, pos := "ref.go:26", after := #[], guard := none }
@[reducible, go_sem] def opREnc0815 : Oper := { dst := some 17, op := Op.move (Operand.tmp 0), type := 24, pos := "ref.go:26", after := #[], guard := none }
@[reducible, go_sem] def opREnc0816 : Oper := { dst := some 18, op := Op.move (Operand.tmp 6), type := 3, pos := "ref.go:26", after := #[], guard := none }
@[reducible, go_sem] def opREnc0817 : Oper := { dst := some 19, op := Op.indexAddr 24 (Operand.tmp 17) (Operand.tmp 18), type := 0, pos := "ref.go:26", after := #[{ on := 1, ground := Ground.data }, { on := 2, ground := Ground.data }], guard := none }
@[reducible, go_sem] def opREnc0818 : Oper := { dst := some 20, op := Op.fieldAddr 29 (Operand.tmp 19) 0, type := 0, pos := "ref.go:26", after := #[{ on := 3, ground := Ground.data }], guard := none }
@[reducible, go_sem] def opREnc0819 : Oper := { dst := some 21, op := Op.load 2 (Operand.tmp 20), type := 2, pos := "ref.go:26", after := #[{ on := 4, ground := Ground.data }], guard := none }
@[reducible, go_sem] def opREnc0820 : Oper := { dst := some 24, op := Op.move (Operand.tmp 5), type := 77, pos := "ref.go:26", after := #[], guard := none }
@[reducible, go_sem] def opREnc0821 : Oper := { dst := some 25, op := Op.move (Operand.tmp 0), type := 24, pos := "ref.go:26", after := #[], guard := none }
@[reducible, go_sem] def opREnc0822 : Oper := { dst := some 26, op := Op.move (Operand.tmp 6), type := 3, pos := "ref.go:26", after := #[], guard := none }
@[reducible, go_sem] def opREnc0823 : Oper := { dst := some 27, op := Op.indexAddr 24 (Operand.tmp 25) (Operand.tmp 26), type := 0, pos := "ref.go:26", after := #[{ on := 9, ground := Ground.data }, { on := 10, ground := Ground.data }], guard := none }
@[reducible, go_sem] def opREnc0824 : Oper := { dst := some 28, op := Op.fieldAddr 29 (Operand.tmp 27) 1, type := 0, pos := "ref.go:26", after := #[{ on := 11, ground := Ground.data }], guard := none }
@[reducible, go_sem] def opREnc0825 : Oper := { dst := some 29, op := Op.load 27 (Operand.tmp 28), type := 27, pos := "ref.go:26", after := #[{ on := 12, ground := Ground.data }], guard := none }
@[reducible, go_sem] def opREnc0826 : Oper := { dst := some 22, op := Op.buildSlice 76 1 #[(0, Operand.tmp 21)], type := 76, pos := "ref.go:26", after := #[{ on := 5, ground := Ground.data }], guard := none }
@[reducible, go_sem] def opREnc0827 : Oper := { dst := some 30, op := Op.buildSlice 77 1 #[(0, Operand.tmp 29)], type := 77, pos := "ref.go:26", after := #[{ on := 13, ground := Ground.data }], guard := none }
@[reducible, go_sem] def opREnc0828 : Oper := { dst := some 23, op := Op.call { callee := Callee.builtin Builtin.append, args := #[Operand.tmp 16, Operand.tmp 22], argTypes := #[76, 76] }, type := 76, pos := "ref.go:26", after := #[{ on := 0, ground := Ground.data }, { on := 6, ground := Ground.data }], guard := none }
@[reducible, go_sem] def opREnc0829 : Oper := { dst := some 31, op := Op.call { callee := Callee.builtin Builtin.append, args := #[Operand.tmp 24, Operand.tmp 30], argTypes := #[77, 77] }, type := 77, pos := "ref.go:26", after := #[{ on := 8, ground := Ground.data }, { on := 14, ground := Ground.data }, { on := 7, ground := Ground.chain }], guard := none }
@[reducible, go_sem] def opREnc0830 : Oper := { dst := some 4, op := Op.assign (Operand.tmp 23), type := 76, pos := "ref.go:26", after := #[{ on := 7, ground := Ground.data }, { on := 15, ground := Ground.chain }, { on := 0, ground := Ground.phase }, { on := 1, ground := Ground.phase }, { on := 2, ground := Ground.phase }, { on := 3, ground := Ground.phase }, { on := 4, ground := Ground.phase }, { on := 5, ground := Ground.phase }, { on := 6, ground := Ground.phase }, { on := 7, ground := Ground.phase }, { on := 8, ground := Ground.textOnly Departure.lateStores }, { on := 9, ground := Ground.textOnly Departure.lateStores }, { on := 10, ground := Ground.textOnly Departure.lateStores }, { on := 11, ground := Ground.textOnly Departure.lateStores }, { on := 12, ground := Ground.textOnly Departure.lateStores }, { on := 13, ground := Ground.textOnly Departure.lateStores }, { on := 14, ground := Ground.textOnly Departure.lateStores }, { on := 15, ground := Ground.textOnly Departure.lateStoresUnsure }], guard := none }
@[reducible, go_sem] def opREnc0831 : Oper := { dst := some 5, op := Op.assign (Operand.tmp 31), type := 77, pos := "ref.go:26", after := #[{ on := 15, ground := Ground.data }, { on := 16, ground := Ground.chain }, { on := 0, ground := Ground.phase }, { on := 1, ground := Ground.phase }, { on := 2, ground := Ground.phase }, { on := 3, ground := Ground.phase }, { on := 4, ground := Ground.phase }, { on := 5, ground := Ground.phase }, { on := 6, ground := Ground.phase }, { on := 7, ground := Ground.phase }, { on := 8, ground := Ground.phase }, { on := 9, ground := Ground.phase }, { on := 10, ground := Ground.phase }, { on := 11, ground := Ground.phase }, { on := 12, ground := Ground.phase }, { on := 13, ground := Ground.phase }, { on := 14, ground := Ground.phase }, { on := 15, ground := Ground.phase }, { on := 16, ground := Ground.phase }], guard := none }
set_option maxHeartbeats 4000000 in
set_option maxRecDepth 100000 in
theorem rencodeB_any (l : List Pn) (v : Value) (w : World) (hok : ∀ p ∈ l, p.ok) (hl : l.length * 40 ≤ 140737488351232) (hr : Pns w v l) :
    Calls Tryd.prog 21 #[v] w fun e w' => BeEnd l w e w' := by
  obtain ⟨ao0, cap0, rfl, hnc, hcm⟩ := RdV.shape hr
  unfold maxLen at hcm
  obtain ⟨n, hnl⟩ : ∃ n, n = l.length := ⟨_, rfl⟩
  have HN := Lib.hid hnl
  have HR := Lib.hid hr
  have HOK := Lib.hid hok
  rw [← hnl] at hnc hl HR ⊢
  clear hr hnl hok
  go_enter Tryd.func21, Tryd.ntmps21
  go_wp2_with fail
  go_loopg [4, 5, 6, 13] n (fun m s4 s5 s6 s13 wr => ∃ (k : Nat) (tq : Option Addr) (tc : Nat) (vo : Option Addr) (vc : Nat) (T : List Int) (V : List Va), k + m = n ∧ s13 = .int .i64 (k : Int) ∧ s4 = .slice tq k tc ∧ s5 = .slice vo k vc ∧ Hid (T = (tsP l).take k) ∧ Hid (V = (vsP l).take k) ∧ Hid (OwnT wr w.heap.size (.slice tq k tc) T) ∧ Hid (OwnV wr w.heap.size (.slice vo k vc) V) ∧ Hid (Apart (.slice tq k tc) (.slice vo k vc)) ∧ Hid (Below w.heap.size w wr))
  case atStart => exact ⟨0, none, 0, none, 0, [], [], by omega, rfl, rfl, rfl, Lib.hid rfl, Lib.hid rfl, Lib.hid (World.ownsRow_nil _ _ _ _), Lib.hid (OwnV.nil _ _), Lib.hid (fun j h _ => by cases h), Lib.hid (Below.refl _ _)⟩
  case round =>
    obtain ⟨k, tq, tc, vo, vc, T, V, hk, rfl, rfl, rfl, HT, HV, HO, HP, HA, HB⟩ := hrel
    by_cases h0 : gk = 0
    · obtain rfl : k = n := by omega
      have e1 : T = tsP l := by rw [HT.out]; exact List.take_of_length_le (by rw [tsP_len, ← HN.out]; exact Nat.le_refl _)
      have e2 : V = vsP l := by rw [HV.out]; exact List.take_of_length_le (by rw [vsP_len, ← HN.out]; exact Nat.le_refl _)
      subst e1
      subst e2
      have HTm := Lib.hid (show Tms wr (.slice tq k tc) (tsP l) from HO.out.tms)
      have HVm := Lib.hid (show Vals wr (.slice vo k vc) (vsP l) from HP.out.vals)
      have HKT := Lib.hid (tsP_ok HOK.out)
      have HKV := Lib.hid (vsP_ok HOK.out)
      have hE1 := rencode_any (tsP l) (.slice tq k tc) wr HKT.out HTm.out
      clear HT HV HO HP HA hk h0 HR
      cases hes : encS (tsP l) with
      | none =>
        have HES := Lib.hid hes
        go_upto_region 9 with (go_at_call 40; refine hE1.mono ?_; rintro e w2 ⟨hb2, h⟩; rw [HES.out] at h; rcases h with ⟨_, rfl⟩ | ⟨_, _, _, h, _⟩; have HB2 := Lib.hid (HB.out.trans (hb2.mono HB.out.size)); clear hb2 hE1; rotate_left 1; cases h)
        go_wp2_with fail
        go_ret2
        refine ⟨HB2.out, none, 0, ?_, ?_⟩
        · rw [encP_times HES.out]; go_light; rfl
        · rw [encP_times HES.out]; exact Own.nil _ _
      | some t =>
        have HES := Lib.hid hes
        go_upto_region 9 with (go_at_call 40; refine hE1.mono ?_; rintro e w2 ⟨hb2, h⟩; rw [HES.out] at h; rcases h with ⟨h, _⟩ | ⟨t2, ao, ac, h, h9, h11, rfl, ho⟩; cases h; obtain rfl : t = t2 := (by simpa using h); have HB2 := Lib.hid (HB.out.trans (hb2.mono HB.out.size)); have HO2 := Lib.hid ho; have HV2 := Lib.hid (HVm.out.below hb2); have H9 := Lib.hid h9; clear hb2 hE1 ho h h9 h11)
        have hE2 := rencodeC_any (vsP l) (.slice vo k vc) w2 HKV.out HV2.out
        obtain ⟨p, hp⟩ : ∃ p, p = encC (vsP l) := ⟨_, rfl⟩
        have HPE := Lib.hid hp
        clear hp hes
        go_upto_region 12 with (go_at_call 41; refine hE2.mono ?_; rintro e w3 ⟨hb3, ao3, ac3, rfl, ho3⟩; rw [← HPE.out] at ho3 ⊢; have HB3 := Lib.hid (HB2.out.trans (hb3.mono HB2.out.size)); have HO3 := Lib.hid ho3; have HV3 := Lib.hid (HV2.out.below hb3); have HT3 := Lib.hid (show Rd w3 (.slice ao t.length ac) t from RdV.below HO2.out.rd.v hb3); clear hb3 hE2 ho3)
        obtain ⟨vb, m⟩ := p
        try dsimp only at *
        by_cases hm : m = 0
        · subst hm
          have hkd := encC_kind HPE.out.symm
          obtain ⟨b1, off1, c2, he1, hb1, hv0, hv1, hv2⟩ := val_at HV3.out 0 (by have := (encC_fits HPE.out.symm).1; omega)
          have hk0 : 0 < k := by have := (encC_fits HPE.out.symm).1; rw [vsP_len, ← HN.out] at this; omega
          have HEP := Lib.hid (encP_ok HES.out HPE.out.symm)
          have HVB := Lib.hid (encC_short HKV.out HPE.out.symm)
          obtain ⟨kn, hkn⟩ : ∃ kn : Nat, ((vsP l).getD 0 v0).k = (kn : Int) := Int.eq_ofNat_of_zero_le (by omega)
          rw [hkn] at hkd hv0 HEP
          simp only [Value.slice.injEq] at he1
          obtain ⟨rfl, he9, rfl⟩ := he1
          simp only [Nat.zero_mul, Nat.add_zero] at hv0
          clear hkn he9 hv1 hv2
          have hkm : IntKind.u8.wrap (kn : Int) = (kn : Int) := IntWalk.u8_in _ (by omega)
          have HKD := Lib.hid hkd
          have HKX : Hid (bV (UInt8.ofNat kn) = .int .u8 (kn : Int)) := Lib.hid (by unfold bV; rw [UInt8.toNat_ofNat']; congr 1 <;> omega)
          have hF := fun w => four_any t.length (by have := H9.out; omega) w
          have HBD : Hid (bodB (kn : Int) t vb = [[UInt8.ofNat kn], beN 4 t.length, t, vb].flatten) := Lib.hid (by unfold bodB; simp)
          have hlen : Hid (([[UInt8.ofNat kn], beN 4 t.length, t, vb].flatten).length ≤ 140737488355328) := Lib.hid (by rw [← HBD.out, bodB_len]; have := H9.out; have := HVB.out; omega)
          have HDL : Hid ((bodB (kn : Int) t vb).length ≤ 20000000) := Lib.hid (by rw [bodB_len]; have := H9.out; have := HVB.out; omega)
          generalize beN 4 t.length = F4 at *
          go_upto_region 14 with fail
          go_cut [10] (fun s10 wx => ∃ ad cd, s10 = .slice ad (bodB (kn : Int) t vb).length cd ∧ Hid (Rd wx (.slice ad (bodB (kn : Int) t vb).length cd) (bodB (kn : Int) t vb)) ∧ Hid (Below w3.heap.size w3 wx))
          case first =>
            have hS : w3.drew.cell? ⟨b1, off1, none⟩ = some (.int .i64 (kn : Int)) := hv0
            have hlt : b1 < w3.drew.heap.size := hb1
            have hB : Below w3.heap.size w3 w3.drew := (Below.refl _ _).drew
            have KT : RdV w3.drew 1 (.slice ao t.length ac) t.length (t.map bV) := RdV.below HT3.out hB
            have KV : RdV w3.drew 1 (.slice ao3 vb.length ac3) vb.length (vb.map bV) := RdV.below HO3.out.rd.v hB
            clear hv0 hb1 hkd
            refine wp_region_held_drew (S := fun w' => w'.cell? ⟨b1, off1, none⟩ = some (.int .i64 (kn : Int))) (by kernel_rfl) hS (fun hh => ?_)
            clear hh
            generalize w3.drew = y0 at *
            refine ts 0 opREnc080 hS ?_
            refine ts 1 opREnc081 hS ?_
            refine ts 2 opREnc082 hS ?_
            refine ts 3 opREnc083 hS ?_
            refine ts 4 opREnc084 hS ?_
            refine ts 6 opREnc085 hS ?_
            refine ts 7 opREnc086 hS ?_
            refine ts 9 opREnc087 hS ?_
            refine ts 10 opREnc088 hS ?_
            refine wpAnyH_ready (rs := [5, 8]) (by kernel_rfl) (by simp) (AllReadyH.cons (o := opREnc089) rfl (fun K hK => ?_) (AllReadyH.cons (o := opREnc0810) rfl (fun K hK => ?_) AllReadyH.nil))
            · skip
              go_simp
              refine hK.out _ _ ((((Below.refl _ _).alloc (Nat.le_refl _) _).cell (p := ⟨b1, off1, none⟩) hlt).trans hS) (fun hh => ?_)
              clear hK K hh
              have hb : Below y0.heap.size y0 (y0.alloc (.cells #[.int .u8 (kn : Int)] 5)) := (Below.refl _ _).alloc (Nat.le_refl _) _
              have K5 : RdV (y0.alloc (.cells #[.int .u8 (kn : Int)] 5)) 1 (.slice (some ⟨y0.heap.size, 0, none⟩) 1 1) 1 [.int .u8 (kn : Int)] := RdV.one y0 _ 5
              replace hS := (hb.cell (p := ⟨b1, off1, none⟩) hlt).trans hS
              replace KT := RdV.below KT hb
              replace KV := RdV.below KV hb
              replace hlt := Nat.lt_of_lt_of_le hlt hb.size
              replace hB := hB.trans (hb.mono hB.size)
              clear hb
              generalize y0.alloc (.cells #[.int .u8 (kn : Int)] 5) = y1 at *
              generalize y0.heap.size = g5 at *
              rw [← HKX.out] at K5
              try simp only [Act.put, List.setIfInBounds_toArray, List.set_cons_zero, List.set_cons_succ]
              refine wpAnyH_ready (rs := [8]) (by kernel_rfl) (by simp) (AllReadyH.cons (o := opREnc0810) rfl (fun K hK => ?_) AllReadyH.nil)
              go_simp
              go_at_call 20
              refine (hF _).mono ?_
              rintro _ y2 ⟨o8, c8, rfl, hn, hb⟩
              have K8 := hn.rd
              replace hS := (hb.cell (p := ⟨b1, off1, none⟩) hlt).trans hS
              replace KT := RdV.below KT hb
              replace KV := RdV.below KV hb
              replace K5 := RdV.below K5 hb
              replace hlt := Nat.lt_of_lt_of_le hlt hb.size
              replace hB := hB.trans (hb.mono hB.size)
              clear hn hb
              dsimp only
              refine hK.out _ _ hS (fun hh => ?_)
              clear hK K hh
              try simp only [Act.put, List.setIfInBounds_toArray, List.set_cons_zero, List.set_cons_succ]
              refine wpAnyH_ready (rs := [11]) (by kernel_rfl) (by simp) (AllReadyH.cons (o := opREnc0811) rfl (fun K hK => ?_) AllReadyH.nil)
              go_simp
              refine hK.out _ _ ((((Below.refl _ _).alloc (Nat.le_refl _) _).cell (p := ⟨b1, off1, none⟩) hlt).trans hS) (fun hh => ?_)
              clear hK K hh
              try simp only [Act.put, List.setIfInBounds_toArray, List.set_cons_zero, List.set_cons_succ]
              refine wpAnyH_ready (rs := [12]) (by kernel_rfl) (by simp) (AllReadyH.cons (o := opREnc0812) rfl (fun K hK => ?_) AllReadyH.nil)
              go_simp
              go_at_call 23
              have hJ := joinN_any [.slice (some ⟨g5, 0, none⟩) 1 1, .slice o8 F4.length c8, .slice ao t.length ac, .slice ao3 vb.length ac3] [[UInt8.ofNat kn], F4, t, vb] 4 33 y2 rfl (by decide) (Pcs.cons K5 (Pcs.cons K8 (Pcs.cons KT (Pcs.cons KV Pcs.nil)))) hlen.out
              rw [← HBD.out] at hJ
              refine hJ.mono ?_
              rintro _ y4 ⟨ad, cd, rfl, hn, hb⟩
              have HOD := Lib.hid hn.rd
              have HBX := Lib.hid (hB.trans (hb.mono hB.size))
              replace hS := (hb.cell (p := ⟨b1, off1, none⟩) hlt).trans hS
              clear hn hb hJ
              dsimp only
              refine hK.out _ _ hS (fun hh => ?_)
              clear hK K hh
              try simp only [Act.put, List.setIfInBounds_toArray, List.set_cons_zero, List.set_cons_succ]
              refine ts 13 opREnc0813 hS ?_
              refine wpAnyH_done (by kernel_rfl) ?_ _
              clear hS
              go_wp2_with fail
              go_meet
              go_light
              exact ⟨ad, cd, rfl, HOD, HBX⟩
            · skip
              go_simp
              go_at_call 20
              refine (hF _).mono ?_
              rintro _ y1 ⟨o8, c8, rfl, hn, hb⟩
              have K8 := hn.rd
              replace hS := (hb.cell (p := ⟨b1, off1, none⟩) hlt).trans hS
              replace KT := RdV.below KT hb
              replace KV := RdV.below KV hb
              replace hlt := Nat.lt_of_lt_of_le hlt hb.size
              replace hB := hB.trans (hb.mono hB.size)
              clear hn hb
              dsimp only
              refine hK.out _ _ hS (fun hh => ?_)
              clear hK K hh
              try simp only [Act.put, List.setIfInBounds_toArray, List.set_cons_zero, List.set_cons_succ]
              refine wpAnyH_ready (rs := [5]) (by kernel_rfl) (by simp) (AllReadyH.cons (o := opREnc089) rfl (fun K hK => ?_) AllReadyH.nil)
              go_simp
              refine hK.out _ _ ((((Below.refl _ _).alloc (Nat.le_refl _) _).cell (p := ⟨b1, off1, none⟩) hlt).trans hS) (fun hh => ?_)
              clear hK K hh
              have hb : Below y1.heap.size y1 (y1.alloc (.cells #[.int .u8 (kn : Int)] 5)) := (Below.refl _ _).alloc (Nat.le_refl _) _
              have K5 : RdV (y1.alloc (.cells #[.int .u8 (kn : Int)] 5)) 1 (.slice (some ⟨y1.heap.size, 0, none⟩) 1 1) 1 [.int .u8 (kn : Int)] := RdV.one y1 _ 5
              replace hS := (hb.cell (p := ⟨b1, off1, none⟩) hlt).trans hS
              replace KT := RdV.below KT hb
              replace KV := RdV.below KV hb
              replace K8 := RdV.below K8 hb
              replace hlt := Nat.lt_of_lt_of_le hlt hb.size
              replace hB := hB.trans (hb.mono hB.size)
              clear hb
              generalize y1.alloc (.cells #[.int .u8 (kn : Int)] 5) = y2 at *
              generalize y1.heap.size = g5 at *
              rw [← HKX.out] at K5
              try simp only [Act.put, List.setIfInBounds_toArray, List.set_cons_zero, List.set_cons_succ]
              refine wpAnyH_ready (rs := [11]) (by kernel_rfl) (by simp) (AllReadyH.cons (o := opREnc0811) rfl (fun K hK => ?_) AllReadyH.nil)
              go_simp
              refine hK.out _ _ ((((Below.refl _ _).alloc (Nat.le_refl _) _).cell (p := ⟨b1, off1, none⟩) hlt).trans hS) (fun hh => ?_)
              clear hK K hh
              try simp only [Act.put, List.setIfInBounds_toArray, List.set_cons_zero, List.set_cons_succ]
              refine wpAnyH_ready (rs := [12]) (by kernel_rfl) (by simp) (AllReadyH.cons (o := opREnc0812) rfl (fun K hK => ?_) AllReadyH.nil)
              go_simp
              go_at_call 23
              have hJ := joinN_any [.slice (some ⟨g5, 0, none⟩) 1 1, .slice o8 F4.length c8, .slice ao t.length ac, .slice ao3 vb.length ac3] [[UInt8.ofNat kn], F4, t, vb] 4 33 y2 rfl (by decide) (Pcs.cons K5 (Pcs.cons K8 (Pcs.cons KT (Pcs.cons KV Pcs.nil)))) hlen.out
              rw [← HBD.out] at hJ
              refine hJ.mono ?_
              rintro _ y4 ⟨ad, cd, rfl, hn, hb⟩
              have HOD := Lib.hid hn.rd
              have HBX := Lib.hid (hB.trans (hb.mono hB.size))
              replace hS := (hb.cell (p := ⟨b1, off1, none⟩) hlt).trans hS
              clear hn hb hJ
              dsimp only
              refine hK.out _ _ hS (fun hh => ?_)
              clear hK K hh
              try simp only [Act.put, List.setIfInBounds_toArray, List.set_cons_zero, List.set_cons_succ]
              refine ts 13 opREnc0813 hS ?_
              refine wpAnyH_done (by kernel_rfl) ?_ _
              clear hS
              go_wp2_with fail
              go_meet
              go_light
              exact ⟨ad, cd, rfl, HOD, HBX⟩
          case rest =>
          obtain ⟨ad, cd, rfl, HD, HB4⟩ := hcut
          have HSL : Hid (sealB (bodB (kn : Int) t vb) = bodB (kn : Int) t vb ++ beN 4 (crc (bodB (kn : Int) t vb))) := Lib.hid rfl
          have hs := rsum_any (bodB (kn : Int) t vb) _ wc HD.out
          have hF2 := fun w => four_any (crc (bodB (kn : Int) t vb)) (crc_lt _) w
          have hcl := crc_lt (bodB (kn : Int) t vb)
          have HBW := Lib.hid (HB3.out.trans (HB4.out.mono HB3.out.size))
          have HCL : Hid ((beN 4 (crc (bodB (kn : Int) t vb))).length = 4) := Lib.hid (beN_len _ _)
          clear hF HBD hlen hv0 hb1 hkd hkm
          generalize bodB (kn : Int) t vb = D at *
          generalize beN 4 (crc D) = C4 at *
          generalize crc D = S4 at *
          have hlj : Hid (D.length + C4.length ≤ 140737488355328) := Lib.hid (by have := HDL.out; have := HCL.out; omega)
          rw [HSL.out] at HEP
          go_wp2_with (first
            | (go_at_call 24; refine hs.mono ?_; rintro _ w5 ⟨rfl, q5, rfl⟩; have HD5 := Lib.hid (show Rd (wc.drewN q5) (.slice ad D.length cd) D from HD.out); have HB5 := Lib.hid (below_dr HBW.out q5); clear hs)
            | (go_at_call 20; refine (hF2 _).mono ?_; rintro _ w6 ⟨o6, c6, rfl, hn6, hb6⟩; have HK6 := Lib.hid hn6.rd; have HD6 := Lib.hid (show Rd w6 (.slice ad D.length cd) D from RdV.below HD5.out.v hb6); have HB6 := Lib.hid (HB5.out.trans (hb6.mono HB5.out.size)); clear hF2 hn6 hb6)
            | (go_at_call 23; have hJ := join2_any D C4 (.slice ad D.length cd) (.slice o6 C4.length c6) 33 w6 HD6.out HK6.out hlj.out; refine hJ.mono ?_; rintro _ w7 ⟨o7, c7, rfl, hn7, hb7⟩; have HO7 := Lib.hid (ownsRow_mono hn7 HB6.out.size); have HB7 := Lib.hid (HB6.out.trans (hb7.mono HB6.out.size)); clear hn7 hb7 hJ))
          go_ret2
          refine ⟨HB7.out, o7, c7, ?_, ?_⟩
          · rw [HEP.out, show (D ++ C4, (0 : Nat)).1.length = D.length + C4.length from List.length_append]; rfl
          · rw [HEP.out]; exact HO7.out
        · have hmI : ((m : Int) != 0) = true := by simp; omega
          have hPV := encP_vals HES.out (by rw [← HPE.out]; exact hm)
          rw [← HPE.out] at hPV
          have HPV := Lib.hid hPV
          clear hPV
          go_wp2_with fail
          go_ret2
          refine ⟨HB3.out, none, 0, ?_, ?_⟩
          · rw [HPV.out]; go_light; rfl
          · rw [HPV.out]; exact Own.nil _ _
    · have hkn : k < n := by omega
      have HKL : Hid (k < l.length) := Lib.hid (by rw [← HN.out]; exact hkn)
      have HTL : Hid (T.length = k) := Lib.hid (by rw [HT.out, List.length_take, tsP_len, ← HN.out]; omega)
      have HVL : Hid (V.length = k) := Lib.hid (by rw [HV.out, List.length_take, vsP_len, ← HN.out]; omega)
      have HT9 : Hid (T ++ [(l.getD k p0).t] = (tsP l).take (k + 1)) := Lib.hid (by rw [take_more (tsP l) 0 k (by rw [tsP_len]; exact HKL.out), tsP_get l k HKL.out, HT.out])
      have HV9 : Hid (V ++ [(l.getD k p0).v] = (vsP l).take (k + 1)) := Lib.hid (by rw [take_more (vsP l) v0 k (by rw [vsP_len]; exact HKL.out), vsP_get l k HKL.out, HV.out])
      obtain ⟨b, off, c1, he, hb0, e0, e1, e2, e3⟩ := pn_at HR.out k HKL.out
      simp only [Value.slice.injEq] at he
      obtain ⟨rfl, he9, rfl⟩ := he
      clear he9
      have hS0 : CP b (off + k * 4) _ _ _ _ w := ⟨e0, e1, e2, e3⟩
      have hS1 := hS0.below hb0 HB.out
      obtain ⟨d0, d1, d2, d3⟩ := hS1
      have HD : Hid ((l.getD k p0).v = ⟨(l.getD k p0).v.k, (l.getD k p0).v.b, (l.getD k p0).v.t⟩) := Lib.hid rfl
      rw [HD.out] at HV9
      generalize (l.getD k p0).t = pt at *
      generalize (l.getD k p0).v.k = pk at *
      generalize (l.getD k p0).v.b = pb at *
      generalize (l.getD k p0).v.t = px at *
      clear e0 e1 e2 e3 hS0 HD HT HV
      go_upto_region 6 with fail
      have hS : CP b (off + k * 4) pt pk pb px wr.drew := ⟨d0, d1, d2, d3⟩
      have hB := HB.out.drew
      have HOt : wr.drew.ownsRow w.heap.size 2 1 (.slice tq k tc) k (T.map tV) := by
        have h := (Chg.ofBelowAny (S := fun _ => False) (Below.refl wr.heap.size wr).drew).owns HO.out (fun _ _ h => h)
        rw [HTL.out] at h
        exact h
      have HOv : wr.drew.ownsRow w.heap.size 27 3 (.slice vo k vc) k (V.flatMap Va.cells) := by
        have h := (Chg.ofBelowAny (S := fun _ => False) (Below.refl wr.heap.size wr).drew).owns HP.out (fun _ _ h => h)
        rw [HVL.out] at h
        exact h
      have HA1 := HA.out
      have h63 : k + 1 ≤ maxLen := by unfold maxLen; omega
      have hby8 : (k + 1) * 8 ≤ 140737488355328 := by omega
      have hby32 : (k + 1) * 32 ≤ 140737488355328 := by omega
      clear d0 d1 d2 d3 HO HP HA HB
      refine wp_region_held_drew (S := fun w' => w'.cell? ⟨b, off + k * 4, none⟩ = some (.int .i64 pt) ∧ w'.cell? ⟨b, off + k * 4 + 1, none⟩ = some (.int .i64 pk) ∧ w'.cell? ⟨b, off + k * 4 + 2, none⟩ = some (.int .u64 (pb : Int)) ∧ w'.cell? ⟨b, off + k * 4 + 3, none⟩ = some (.string px)) (by kernel_rfl) hS (fun hh => ?_)
      clear hh
      generalize wr.drew = x0 at *
      refine ts 0 opREnc0814 hS ?_
      refine ts 1 opREnc0815 hS ?_
      refine ts 2 opREnc0816 hS ?_
      refine ts 3 opREnc0817 hS ?_
      refine ts 4 opREnc0818 hS ?_
      refine ts 5 opREnc0819 hS ?_
      refine ts 8 opREnc0820 hS ?_
      refine ts 9 opREnc0821 hS ?_
      refine ts 10 opREnc0822 hS ?_
      refine ts 11 opREnc0823 hS ?_
      refine ts 12 opREnc0824 hS ?_
      refine ts 13 opREnc0825 hS ?_
      refine wpAnyH_ready (rs := [6, 14]) (by kernel_rfl) (by simp) (AllReadyH.cons (o := opREnc0826) rfl (fun K hK => ?_) (AllReadyH.cons (o := opREnc0827) rfl (fun K hK => ?_) AllReadyH.nil))
      · skip
        go_simp
        refine hK.out _ _ (CP.below hS hb0 ((Below.refl _ _).alloc hB.size _)) (fun hh => ?_)
        clear hK K hh
        have hbx : Below x0.heap.size x0 (x0.alloc (.cells #[.int .i64 pt] 2)) := (Below.refl _ _).alloc (Nat.le_refl _) _
        have hbw : Below w.heap.size x0 (x0.alloc (.cells #[.int .i64 pt] 2)) := hbx.mono hB.size
        replace hS := CP.below hS hb0 hbw
        have K6 : RdV (x0.alloc (.cells #[.int .i64 pt] 2)) 1 (.slice (some ⟨x0.heap.size, 0, none⟩) 1 1) 1 [.int .i64 pt] := RdV.one x0 _ 2
        replace HOt := World.ownsRow.alloc HOt (.cells #[.int .i64 pt] 2)
        replace HOv := World.ownsRow.alloc HOv (.cells #[.int .i64 pt] 2)
        replace hB := hB.trans hbw
        clear hbx hbw
        generalize x0.alloc (.cells #[.int .i64 pt] 2) = x1 at *
        generalize x0.heap.size = g6 at *
        try simp only [Act.put, List.setIfInBounds_toArray, List.set_cons_zero, List.set_cons_succ]
        refine wpAnyH_ready (rs := [7, 14]) (by kernel_rfl) (by simp) (AllReadyH.cons (o := opREnc0828) rfl (fun K hK => ?_) (AllReadyH.cons (o := opREnc0827) rfl (fun K hK => ?_) AllReadyH.nil))
        · skip
          refine step_append_rd x1 rfl (.tmp 16) (.tmp 22) 76 rfl w.heap.size 2 (.int .i64 0) 1 8 Tryd.underlying76 infoI64 rfl (by decide) (.slice tq k tc) k (T.map tV) rfl HOt (.slice (some ⟨g6, 0, none⟩) 1 1) 1 [.int .i64 pt] rfl K6 (one_one _ rfl) h63 hby8 hB.size ?_
          intro ao6 cap6 x2 hg
          have hbw : Below w.heap.size x1 x2 := hg.below hB.size (fun i hi => (World.ownsRow.lt HOt i hi).1)
          have HA2 : Apart (.slice ao6 (k + 1) cap6) (.slice vo k vc) := fun i hi hj => (hg.row i hi).elim (fun h => HA1 i h hj) (fun h => by have := (World.ownsRow.lt HOv i hj).2; omega)
          replace HOv := hg.chg.owns HOv (fun i hi e => HA1 i e hi)
          replace hS := CP.below hS hb0 hbw
          have HT2 : x2.ownsRow w.heap.size 2 1 (.slice ao6 (k + 1) cap6) (k + 1) (T.map tV ++ [.int .i64 pt]) := hg.owns
          replace hB := hB.trans hbw
          clear hg hbw HOt K6 HA1
          refine hK.out _ _ hS (fun hh => ?_)
          clear hK K hh
          try simp only [Act.put, List.setIfInBounds_toArray, List.set_cons_zero, List.set_cons_succ]
          refine wpAnyH_ready (rs := [14]) (by kernel_rfl) (by simp) (AllReadyH.cons (o := opREnc0827) rfl (fun K hK => ?_) AllReadyH.nil)
          go_simp
          refine hK.out _ _ (CP.below hS hb0 ((Below.refl _ _).alloc hB.size _)) (fun hh => ?_)
          clear hK K hh
          have hbx : Below x2.heap.size x2 (x2.alloc (.cells #[.int .i64 pk, .int .u64 (pb : Int), .string px] 27)) := (Below.refl _ _).alloc (Nat.le_refl _) _
          have hbw : Below w.heap.size x2 (x2.alloc (.cells #[.int .i64 pk, .int .u64 (pb : Int), .string px] 27)) := hbx.mono hB.size
          replace hS := CP.below hS hb0 hbw
          have K14 : RdV (x2.alloc (.cells #[.int .i64 pk, .int .u64 (pb : Int), .string px] 27)) 3 (.slice (some ⟨x2.heap.size, 0, none⟩) 1 1) 1 [.int .i64 pk, .int .u64 (pb : Int), .string px] := RdV.lit x2 #[.int .i64 pk, .int .u64 (pb : Int), .string px] 27 1 3 (by decide) rfl
          replace HT2 := World.ownsRow.alloc HT2 (.cells #[.int .i64 pk, .int .u64 (pb : Int), .string px] 27)
          replace HOv := World.ownsRow.alloc HOv (.cells #[.int .i64 pk, .int .u64 (pb : Int), .string px] 27)
          replace hB := hB.trans hbw
          clear hbx hbw
          generalize x2.alloc (.cells #[.int .i64 pk, .int .u64 (pb : Int), .string px] 27) = x3 at *
          generalize x2.heap.size = g14 at *
          try simp only [Act.put, List.setIfInBounds_toArray, List.set_cons_zero, List.set_cons_succ]
          refine wpAnyH_ready (rs := [15]) (by kernel_rfl) (by simp) (AllReadyH.cons (o := opREnc0829) rfl (fun K hK => ?_) AllReadyH.nil)
          refine step_append_rd x3 rfl (.tmp 24) (.tmp 30) 77 rfl w.heap.size 27 (.agg #[.int .i64 0, .int .u64 0, .string .empty]) 3 32 Tryd.underlying77 infoVal rfl (by decide) (.slice vo k vc) k (V.flatMap Va.cells) rfl HOv (.slice (some ⟨g14, 0, none⟩) 1 1) 1 [.int .i64 pk, .int .u64 (pb : Int), .string px] rfl K14 (cells_one ⟨pk, pb, px⟩) h63 hby32 hB.size ?_
          intro ao7 cap7 x4 hg
          have hbw : Below w.heap.size x3 x4 := hg.below hB.size (fun i hi => (World.ownsRow.lt HOv i hi).1)
          have HA3 := Lib.hid (show Apart (.slice ao6 (k + 1) cap6) (.slice ao7 (k + 1) cap7) from fun i hi hj => (hg.row i hj).elim (fun h => HA2 i hi h) (fun h => by have := (World.ownsRow.lt HT2 i hi).2; omega))
          have HT3 := Lib.hid (hg.chg.owns HT2 (fun i hi e => HA2 i hi e))
          have HV3 := Lib.hid hg.owns
          have HB3 := Lib.hid (hB.trans hbw)
          replace hS := CP.below hS hb0 hbw
          clear hg hbw HT2 HOv K14 HA2 hB
          refine hK.out _ _ hS (fun hh => ?_)
          clear hK K hh
          try simp only [Act.put, List.setIfInBounds_toArray, List.set_cons_zero, List.set_cons_succ]
          refine ts 16 opREnc0830 hS ?_
          refine ts 17 opREnc0831 hS ?_
          refine wpAnyH_done (by kernel_rfl) ?_ _
          clear hS
          go_wp2_with fail
          go_roundg (gk - 1)
          case measure => go_light; omega
          case rel =>
            go_light
            refine ⟨k + 1, ao6, cap6, ao7, cap7, T ++ [pt], V ++ [⟨pk, pb, px⟩], by omega, by go_num, rfl, rfl, HT9, HV9, Lib.hid ?_, Lib.hid ?_, HA3, HB3⟩
            · unfold OwnT
              rw [List.length_append, HTL.out, List.map_append]
              exact HT3.out
            · unfold OwnV
              rw [List.length_append, HVL.out, flatV_snoc]
              exact HV3.out
        · skip
          go_simp
          refine hK.out _ _ (CP.below hS hb0 ((Below.refl _ _).alloc hB.size _)) (fun hh => ?_)
          clear hK K hh
          have hbx : Below x1.heap.size x1 (x1.alloc (.cells #[.int .i64 pk, .int .u64 (pb : Int), .string px] 27)) := (Below.refl _ _).alloc (Nat.le_refl _) _
          have hbw : Below w.heap.size x1 (x1.alloc (.cells #[.int .i64 pk, .int .u64 (pb : Int), .string px] 27)) := hbx.mono hB.size
          replace hS := CP.below hS hb0 hbw
          have K14 : RdV (x1.alloc (.cells #[.int .i64 pk, .int .u64 (pb : Int), .string px] 27)) 3 (.slice (some ⟨x1.heap.size, 0, none⟩) 1 1) 1 [.int .i64 pk, .int .u64 (pb : Int), .string px] := RdV.lit x1 #[.int .i64 pk, .int .u64 (pb : Int), .string px] 27 1 3 (by decide) rfl
          have hL14 : ∀ i, (Value.slice tq k tc).ownBlock = some i → i ≠ x1.heap.size := fun i hi e => by have := (World.ownsRow.lt HOt i hi).2; omega
          replace K6 := RdV.below K6 hbx
          replace HOt := World.ownsRow.alloc HOt (.cells #[.int .i64 pk, .int .u64 (pb : Int), .string px] 27)
          replace HOv := World.ownsRow.alloc HOv (.cells #[.int .i64 pk, .int .u64 (pb : Int), .string px] 27)
          replace hB := hB.trans hbw
          clear hbx hbw
          generalize x1.alloc (.cells #[.int .i64 pk, .int .u64 (pb : Int), .string px] 27) = x2 at *
          generalize x1.heap.size = g14 at *
          try simp only [Act.put, List.setIfInBounds_toArray, List.set_cons_zero, List.set_cons_succ]
          refine wpAnyH_ready (rs := [7]) (by kernel_rfl) (by simp) (AllReadyH.cons (o := opREnc0828) rfl (fun K hK => ?_) AllReadyH.nil)
          refine step_append_rd x2 rfl (.tmp 16) (.tmp 22) 76 rfl w.heap.size 2 (.int .i64 0) 1 8 Tryd.underlying76 infoI64 rfl (by decide) (.slice tq k tc) k (T.map tV) rfl HOt (.slice (some ⟨g6, 0, none⟩) 1 1) 1 [.int .i64 pt] rfl K6 (one_one _ rfl) h63 hby8 hB.size ?_
          intro ao6 cap6 x3 hg
          have hbw : Below w.heap.size x2 x3 := hg.below hB.size (fun i hi => (World.ownsRow.lt HOt i hi).1)
          have HA2 : Apart (.slice ao6 (k + 1) cap6) (.slice vo k vc) := fun i hi hj => (hg.row i hi).elim (fun h => HA1 i h hj) (fun h => by have := (World.ownsRow.lt HOv i hj).2; omega)
          replace HOv := hg.chg.owns HOv (fun i hi e => HA1 i e hi)
          replace hS := CP.below hS hb0 hbw
          have HT2 : x3.ownsRow w.heap.size 2 1 (.slice ao6 (k + 1) cap6) (k + 1) (T.map tV ++ [.int .i64 pt]) := hg.owns
          replace K14 := RdV.chgLit K14 hg.chg (fun e => hL14 _ e rfl)
          clear hL14
          replace hB := hB.trans hbw
          clear hg hbw HOt K6 HA1
          refine hK.out _ _ hS (fun hh => ?_)
          clear hK K hh
          try simp only [Act.put, List.setIfInBounds_toArray, List.set_cons_zero, List.set_cons_succ]
          refine wpAnyH_ready (rs := [15]) (by kernel_rfl) (by simp) (AllReadyH.cons (o := opREnc0829) rfl (fun K hK => ?_) AllReadyH.nil)
          refine step_append_rd x3 rfl (.tmp 24) (.tmp 30) 77 rfl w.heap.size 27 (.agg #[.int .i64 0, .int .u64 0, .string .empty]) 3 32 Tryd.underlying77 infoVal rfl (by decide) (.slice vo k vc) k (V.flatMap Va.cells) rfl HOv (.slice (some ⟨g14, 0, none⟩) 1 1) 1 [.int .i64 pk, .int .u64 (pb : Int), .string px] rfl K14 (cells_one ⟨pk, pb, px⟩) h63 hby32 hB.size ?_
          intro ao7 cap7 x4 hg
          have hbw : Below w.heap.size x3 x4 := hg.below hB.size (fun i hi => (World.ownsRow.lt HOv i hi).1)
          have HA3 := Lib.hid (show Apart (.slice ao6 (k + 1) cap6) (.slice ao7 (k + 1) cap7) from fun i hi hj => (hg.row i hj).elim (fun h => HA2 i hi h) (fun h => by have := (World.ownsRow.lt HT2 i hi).2; omega))
          have HT3 := Lib.hid (hg.chg.owns HT2 (fun i hi e => HA2 i hi e))
          have HV3 := Lib.hid hg.owns
          have HB3 := Lib.hid (hB.trans hbw)
          replace hS := CP.below hS hb0 hbw
          clear hg hbw HT2 HOv K14 HA2 hB
          refine hK.out _ _ hS (fun hh => ?_)
          clear hK K hh
          try simp only [Act.put, List.setIfInBounds_toArray, List.set_cons_zero, List.set_cons_succ]
          refine ts 16 opREnc0830 hS ?_
          refine ts 17 opREnc0831 hS ?_
          refine wpAnyH_done (by kernel_rfl) ?_ _
          clear hS
          go_wp2_with fail
          go_roundg (gk - 1)
          case measure => go_light; omega
          case rel =>
            go_light
            refine ⟨k + 1, ao6, cap6, ao7, cap7, T ++ [pt], V ++ [⟨pk, pb, px⟩], by omega, by go_num, rfl, rfl, HT9, HV9, Lib.hid ?_, Lib.hid ?_, HA3, HB3⟩
            · unfold OwnT
              rw [List.length_append, HTL.out, List.map_append]
              exact HT3.out
            · unfold OwnV
              rw [List.length_append, HVL.out, flatV_snoc]
              exact HV3.out
      · skip
        go_simp
        refine hK.out _ _ (CP.below hS hb0 ((Below.refl _ _).alloc hB.size _)) (fun hh => ?_)
        clear hK K hh
        have hbx : Below x0.heap.size x0 (x0.alloc (.cells #[.int .i64 pk, .int .u64 (pb : Int), .string px] 27)) := (Below.refl _ _).alloc (Nat.le_refl _) _
        have hbw : Below w.heap.size x0 (x0.alloc (.cells #[.int .i64 pk, .int .u64 (pb : Int), .string px] 27)) := hbx.mono hB.size
        replace hS := CP.below hS hb0 hbw
        have K14 : RdV (x0.alloc (.cells #[.int .i64 pk, .int .u64 (pb : Int), .string px] 27)) 3 (.slice (some ⟨x0.heap.size, 0, none⟩) 1 1) 1 [.int .i64 pk, .int .u64 (pb : Int), .string px] := RdV.lit x0 #[.int .i64 pk, .int .u64 (pb : Int), .string px] 27 1 3 (by decide) rfl
        have hL14 : ∀ i, (Value.slice tq k tc).ownBlock = some i → i ≠ x0.heap.size := fun i hi e => by have := (World.ownsRow.lt HOt i hi).2; omega
        replace HOt := World.ownsRow.alloc HOt (.cells #[.int .i64 pk, .int .u64 (pb : Int), .string px] 27)
        replace HOv := World.ownsRow.alloc HOv (.cells #[.int .i64 pk, .int .u64 (pb : Int), .string px] 27)
        replace hB := hB.trans hbw
        clear hbx hbw
        generalize x0.alloc (.cells #[.int .i64 pk, .int .u64 (pb : Int), .string px] 27) = x1 at *
        generalize x0.heap.size = g14 at *
        try simp only [Act.put, List.setIfInBounds_toArray, List.set_cons_zero, List.set_cons_succ]
        refine wpAnyH_ready (rs := [6]) (by kernel_rfl) (by simp) (AllReadyH.cons (o := opREnc0826) rfl (fun K hK => ?_) AllReadyH.nil)
        go_simp
        refine hK.out _ _ (CP.below hS hb0 ((Below.refl _ _).alloc hB.size _)) (fun hh => ?_)
        clear hK K hh
        have hbx : Below x1.heap.size x1 (x1.alloc (.cells #[.int .i64 pt] 2)) := (Below.refl _ _).alloc (Nat.le_refl _) _
        have hbw : Below w.heap.size x1 (x1.alloc (.cells #[.int .i64 pt] 2)) := hbx.mono hB.size
        replace hS := CP.below hS hb0 hbw
        have K6 : RdV (x1.alloc (.cells #[.int .i64 pt] 2)) 1 (.slice (some ⟨x1.heap.size, 0, none⟩) 1 1) 1 [.int .i64 pt] := RdV.one x1 _ 2
        replace K14 := RdV.below K14 hbx
        replace HOt := World.ownsRow.alloc HOt (.cells #[.int .i64 pt] 2)
        replace HOv := World.ownsRow.alloc HOv (.cells #[.int .i64 pt] 2)
        replace hB := hB.trans hbw
        clear hbx hbw
        generalize x1.alloc (.cells #[.int .i64 pt] 2) = x2 at *
        generalize x1.heap.size = g6 at *
        try simp only [Act.put, List.setIfInBounds_toArray, List.set_cons_zero, List.set_cons_succ]
        refine wpAnyH_ready (rs := [7]) (by kernel_rfl) (by simp) (AllReadyH.cons (o := opREnc0828) rfl (fun K hK => ?_) AllReadyH.nil)
        refine step_append_rd x2 rfl (.tmp 16) (.tmp 22) 76 rfl w.heap.size 2 (.int .i64 0) 1 8 Tryd.underlying76 infoI64 rfl (by decide) (.slice tq k tc) k (T.map tV) rfl HOt (.slice (some ⟨g6, 0, none⟩) 1 1) 1 [.int .i64 pt] rfl K6 (one_one _ rfl) h63 hby8 hB.size ?_
        intro ao6 cap6 x3 hg
        have hbw : Below w.heap.size x2 x3 := hg.below hB.size (fun i hi => (World.ownsRow.lt HOt i hi).1)
        have HA2 : Apart (.slice ao6 (k + 1) cap6) (.slice vo k vc) := fun i hi hj => (hg.row i hi).elim (fun h => HA1 i h hj) (fun h => by have := (World.ownsRow.lt HOv i hj).2; omega)
        replace HOv := hg.chg.owns HOv (fun i hi e => HA1 i e hi)
        replace hS := CP.below hS hb0 hbw
        have HT2 : x3.ownsRow w.heap.size 2 1 (.slice ao6 (k + 1) cap6) (k + 1) (T.map tV ++ [.int .i64 pt]) := hg.owns
        replace K14 := RdV.chgLit K14 hg.chg (fun e => hL14 _ e rfl)
        clear hL14
        replace hB := hB.trans hbw
        clear hg hbw HOt K6 HA1
        refine hK.out _ _ hS (fun hh => ?_)
        clear hK K hh
        try simp only [Act.put, List.setIfInBounds_toArray, List.set_cons_zero, List.set_cons_succ]
        refine wpAnyH_ready (rs := [15]) (by kernel_rfl) (by simp) (AllReadyH.cons (o := opREnc0829) rfl (fun K hK => ?_) AllReadyH.nil)
        refine step_append_rd x3 rfl (.tmp 24) (.tmp 30) 77 rfl w.heap.size 27 (.agg #[.int .i64 0, .int .u64 0, .string .empty]) 3 32 Tryd.underlying77 infoVal rfl (by decide) (.slice vo k vc) k (V.flatMap Va.cells) rfl HOv (.slice (some ⟨g14, 0, none⟩) 1 1) 1 [.int .i64 pk, .int .u64 (pb : Int), .string px] rfl K14 (cells_one ⟨pk, pb, px⟩) h63 hby32 hB.size ?_
        intro ao7 cap7 x4 hg
        have hbw : Below w.heap.size x3 x4 := hg.below hB.size (fun i hi => (World.ownsRow.lt HOv i hi).1)
        have HA3 := Lib.hid (show Apart (.slice ao6 (k + 1) cap6) (.slice ao7 (k + 1) cap7) from fun i hi hj => (hg.row i hj).elim (fun h => HA2 i hi h) (fun h => by have := (World.ownsRow.lt HT2 i hi).2; omega))
        have HT3 := Lib.hid (hg.chg.owns HT2 (fun i hi e => HA2 i hi e))
        have HV3 := Lib.hid hg.owns
        have HB3 := Lib.hid (hB.trans hbw)
        replace hS := CP.below hS hb0 hbw
        clear hg hbw HT2 HOv K14 HA2 hB
        refine hK.out _ _ hS (fun hh => ?_)
        clear hK K hh
        try simp only [Act.put, List.setIfInBounds_toArray, List.set_cons_zero, List.set_cons_succ]
        refine ts 16 opREnc0830 hS ?_
        refine ts 17 opREnc0831 hS ?_
        refine wpAnyH_done (by kernel_rfl) ?_ _
        clear hS
        go_wp2_with fail
        go_roundg (gk - 1)
        case measure => go_light; omega
        case rel =>
          go_light
          refine ⟨k + 1, ao6, cap6, ao7, cap7, T ++ [pt], V ++ [⟨pk, pb, px⟩], by omega, by go_num, rfl, rfl, HT9, HV9, Lib.hid ?_, Lib.hid ?_, HA3, HB3⟩
          · unfold OwnT
            rw [List.length_append, HTL.out, List.map_append]
            exact HT3.out
          · unfold OwnV
            rw [List.length_append, HVL.out, flatV_snoc]
            exact HV3.out
end Go.Proofs.YthcgalpabjjkoaaDoor

