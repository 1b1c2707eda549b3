/- LzRuns' walk: one byte again and again comes to a few pieces. -/
import Derived.Test.YtglpdkcpnigniaaLzPack
import Derived.Test.YtglpdkcpnigniaaRows
import Derived.ProofKit
import Derived.OpenShut
import Derived.SizedLaws
import Derived.OwnWalk
import Derived.Lib.SlBytesConst
import Derived.Laws.IdiomStrings
namespace Go.Proofs.Ytglpdkcpnigniaa
open Go.RowKit Go.ChangeShapes Go.WideShapes Go.ChangeAt
set_option linter.unusedVariables false

theorem at4_rep (c : UInt8) (n i : Nat) (h : i + 4 ≤ n) : at4 (List.replicate n c) i = [c, c, c, c] := by
  rw [at4_eq _ _ (by simpa using h)]
  simp

theorem lastB_rep (c : UInt8) (n a : Nat) (h1 : 1 ≤ a) (h : a + 4 ≤ n) : lastB (List.replicate n c) a a = some (a - 1) := by
  refine lastB_is _ _ _ _ (by omega) ?_ (fun q h2 h3 => by omega)
  rw [at4_rep _ _ _ (by omega), at4_rep _ _ _ h]

theorem ext_rep (c : UInt8) (n p a : Nat) (hp : p < a) : ∀ (f m : Nat), a + m ≤ n → ext (List.replicate n c) p a m f = min f (n - (a + m))
  | 0, m, h => by simp [ext]
  | f + 1, m, h => by
    by_cases h1 : a + m < n
    · rw [ext_go ⟨by simpa using h1, by rw [List.getElem?_replicate, List.getElem?_replicate, if_pos (by omega), if_pos (by omega)]⟩, ext_rep c n p a hp f (m + 1) (by omega)]
      omega
    · rw [ext_stop (fun h2 => h1 (by simpa using h2.1))]
      omega

theorem pk_rep_step (c : UInt8) (n a beg : Nat) (h1 : 1 ≤ a) (h : a + 4 ≤ n) : pk (List.replicate n c) a beg = flush (sub (List.replicate n c) beg a) ++ (piece (min 127 (n - (a + 4))) 1 ++ pk (List.replicate n c) (a + (4 + min 127 (n - (a + 4)))) (a + (4 + min 127 (n - (a + 4))))) := by
  have hn := near_some (lastB_rep c n a h1 h) (by omega)
  have := pk_take (beg := beg) (by simpa using h) hn
  rw [ext_rep c n (a - 1) a (by omega) 127 4 h, show a - (a - 1) = 1 by omega] at this
  exact this

theorem pk_rep_first (c : UInt8) (n : Nat) (h : 4 ≤ n) : pk (List.replicate n c) 0 0 = pk (List.replicate n c) 1 0 := by
  exact pk_skip (by simpa using h) (near_none rfl)

def runLen (m : Nat) : Nat := 3 * (m / 131) + (if 4 ≤ m % 131 then 3 else if 0 < m % 131 then 1 + m % 131 else 0)

theorem flush_small (l : List UInt8) (h : l.length ≤ 127) : (flush l).length = if l.length = 0 then 0 else 1 + l.length := by
  by_cases h0 : l = []
  · subst h0; simp [flush_nil]
  · have hl := List.length_pos_iff.2 h0
    rw [flush_ne h0, List.drop_of_length_le h, flush_nil, if_neg (by omega)]
    simp
    omega

theorem pk_rep_len (c : UInt8) (n : Nat) : ∀ (m a : Nat), n - a = m → 1 ≤ a → a ≤ n → (pk (List.replicate n c) a a).length = runLen m := by
  intro m
  induction m using Nat.strongRecOn with
  | _ m ih =>
    intro a hm h1 h2
    by_cases h : a + 4 ≤ n
    · rw [pk_rep_step c n a a h1 h, sub_self, flush_nil, List.nil_append, List.length_append]
      have := ih (n - (a + (4 + min 127 (n - (a + 4))))) (by omega) _ rfl (by omega) (by omega)
      rw [this]
      unfold runLen
      simp only [piece, List.length_cons, List.length_nil]
      by_cases hb : 131 ≤ m
      · rw [show n - (a + (4 + min 127 (n - (a + 4)))) = m - 131 by omega]
        have e1 : (m - 131) / 131 = m / 131 - 1 := by omega
        have e2 : (m - 131) % 131 = m % 131 := by omega
        have e3 : 1 ≤ m / 131 := by omega
        rw [e1, e2]
        split <;> omega
      · rw [show n - (a + (4 + min 127 (n - (a + 4)))) = 0 by omega]
        have e1 : m / 131 = 0 := by omega
        have e2 : m % 131 = m := by omega
        rw [e1, e2]
        simp
        omega
    · rw [pk_end (by simpa using h), flush_small _ (by simp; omega)]
      unfold runLen
      have e1 : m / 131 = 0 := by omega
      have e2 : m % 131 = m := by omega
      rw [e1, e2]
      simp only [List.length_drop, List.length_replicate, hm]
      (repeat' split) <;> omega

theorem pk_runs (c : UInt8) (n : Nat) (h : 5 ≤ n) : (pk (List.replicate n c) 0 0).length = 2 + runLen (n - 1) := by
  rw [pk_rep_first c n (by omega), pk_rep_step c n 1 0 (by omega) (by omega), List.length_append, List.length_append]
  have h1 := pk_rep_len c n _ (1 + (4 + min 127 (n - (1 + 4)))) rfl (by omega) (by omega)
  have h2 := pk_rep_len c n _ 1 rfl (by omega) (by omega)
  rw [pk_rep_step c n 1 1 (by omega) (by omega), sub_self, flush_nil, List.nil_append, List.length_append] at h2
  have h3 : (flush (sub (List.replicate n c) 0 1)).length = 2 := by
    rw [flush_small _ (by rw [sub_len _ _ _ (by simp; omega)]; omega), sub_len _ _ _ (by simp; omega)]; rfl
  omega

theorem awake_pk : pk (List.replicate 8 97) 0 0 = [1, 97, 131, 0, 1] := by
  rw [pk_rep_first 97 8 (by omega), pk_rep_step 97 8 1 0 (by omega) (by omega)]
  rw [show 1 + (4 + min 127 (8 - (1 + 4))) = 8 by omega, pk_end (by simp)]
  have h1 : sub (List.replicate 8 (97 : UInt8)) 0 1 = [97] := by rfl
  have h2 : (List.replicate 8 (97 : UInt8)).drop 8 = [] := by rfl
  rw [h1, h2, flush_nil, flush_ne (by simp)]
  have h3 : ([97] : List UInt8).drop 127 = [] := by rfl
  rw [h3, flush_nil]
  rfl

theorem RdV.litm (w : World) (cs : Array Value) (e : TypeId) (fr : Nat × Nat) (n size : Nat) (hm : n ≤ maxLen) (hs : cs.size = n * size) : RdV (w.alloc (.cells cs e fr)) size (.slice (Option.some ⟨w.heap.size, 0, none⟩) n n) n cs.toList := by
  refine ⟨by simpa using hs, Option.some ⟨w.heap.size, 0, none⟩, n, rfl, Nat.le_refl _, hm, (fun h => by cases h), fun a ha j u hu => ?_⟩
  cases ha
  refine ⟨rfl, by simp, ?_⟩
  rw [World.cell?_alloc_mark w cs e fr]
  simpa using hu

set_option maxHeartbeats 1000000 in
theorem awake_any (w : World) : Calls Try.prog 6 #[] w fun e w' => e = .returned (.bool true) ∧ Below w.heap.size w w' := by
  go_enter Try.func6, Try.ntmps6
  have HR := Lib.hid (RdV.litm w #[.int .u8 97, .int .u8 97, .int .u8 97, .int .u8 97, .int .u8 97, .int .u8 97, .int .u8 97, .int .u8 97] 5 (8, 9) 8 1 (by decide) rfl)
  have HB := Lib.hid ((Below.refl w.heap.size w).alloc (Nat.le_refl _) (.cells #[.int .u8 97, .int .u8 97, .int .u8 97, .int .u8 97, .int .u8 97, .int .u8 97, .int .u8 97, .int .u8 97] 5 (8, 9)))
  have hcv := Lib.run_convert_bytes_const (P := Try.prog) w 22 5 #[.int .u8 97, .int .u8 97, .int .u8 97, .int .u8 97, .int .u8 97, .int .u8 97, .int .u8 97, .int .u8 97] 8 8 Try.underlying22 Try.underlying5
  go_wp2_with fail
  refine (pack_any (List.replicate 8 97) _ _ (by simp) HR.out).mono ?_
  rintro e w1 ⟨ao, cap, rfl, ho, hb⟩
  rw [awake_pk] at ho ⊢
  have hstr : (convert 22 9 (.slice ao 5 cap)).run Try.prog w1 = .ok (.string ⟨#[1, 97, 131, 0, 1]⟩) w1 := run_str ho.rd 22 5 9 Try.underlying22 Try.underlying5 Try.underlying9
  have HB1 := Lib.hid (HB.out.trans (hb.mono (by simp)))
  clear ho hb HR HB hcv
  go_wp2_with fail
  go_ret
  exact ⟨rfl, HB1.out⟩

theorem zeros (n : Nat) : (madeCells (Value.int .u8 0).cells (n * 1)).toList = (List.replicate n (0 : UInt8)).map bV := by
  apply List.ext_getElem?
  intro i
  simp [madeCells, Value.cells, bV, List.getElem?_replicate, Nat.mod_one]
  by_cases h : i < n <;> simp [h]

theorem rep_set (c : UInt8) (n k : Nat) (h : k < n) : (List.replicate k c ++ List.replicate (n - k) 0).set k c = List.replicate (k + 1) c ++ List.replicate (n - (k + 1)) 0 := by
  apply List.ext_getElem?
  intro i
  simp only [List.getElem?_set, List.getElem?_append, List.getElem?_replicate, List.length_append, List.length_replicate]
  by_cases h1 : k = i
  · subst h1
    simp
    omega
  · rw [if_neg h1]
    by_cases h2 : i < k
    · rw [if_pos h2, if_pos h2, if_pos (by omega), if_pos (by omega)]
    · rw [if_neg h2, if_neg (by omega : ¬ i < k + 1)]
      by_cases h3 : i - k < n - k
      · rw [if_pos h3, if_pos (by omega)]
      · rw [if_neg h3, if_neg (by omega)]

theorem ownAt {w : World} {base : Nat} {v : Value} {bs : List UInt8} (h : Own w base v bs) (k : Nat) (hk : k < bs.length) :
    ∃ g cap, v = .slice (some ⟨g, 0, none⟩) bs.length cap ∧ base ≤ g ∧ g < w.heap.size ∧ w.cell? ⟨g, k, none⟩ = some (.int .u8 (bs[k].toNat : Int)) ∧ w.frozen? ⟨g, k, none⟩ = false ∧
      ∀ z : Int, 0 ≤ z → z < 256 → Own (w.setCell ⟨g, k, none⟩ (.int .u8 z)) base v (bs.set k (UInt8.ofNat z.toNat)) := by
  have h0 := h
  unfold Own at h
  rcases h.2 with ⟨_, h'⟩ | ⟨g, cap, cur, rfl, hb, _⟩
  · omega
  · refine ⟨g, cap, rfl, hb, (h.lt g rfl).2, ?_, h.frozenAt k, fun z h1 h2 => ?_⟩
    · rw [h.cellAt k (by omega)]
      simp [hk, bV]
    · have h3 := (h.stored k (.int .u8 z)).1
      unfold Own
      have e : bV (UInt8.ofNat z.toNat) = .int .u8 z := by simp [bV]; omega
      rw [List.length_set, List.map_set, e]
      exact h3

set_option maxHeartbeats 1000000 in
set_option maxRecDepth 100000 in
theorem lzRuns_run (c : UInt8) (x : Nat) (hx : x < 65536) (w : World) :
    Calls Try.prog 4 #[.int .u8 (c.toNat : Int), .int .u16 (x : Int)] w fun e w' => e = .returned (.bool true) ∧ Below w.heap.size w w' := by
  obtain ⟨i0, hi0, hz0, hz1, hz2⟩ := info_parts infoU8
  go_enter Try.func4, Try.ntmps4
  go_wp2_with fail
  refine (awake_any w).mono ?_
  rintro e w1 ⟨rfl, hb1⟩
  have HB1 := Lib.hid hb1
  have HB1s := Lib.hid hb1.size
  clear hb1
  obtain ⟨n, hn⟩ : ∃ n, n = 5 + x % 20000 := ⟨_, rfl⟩
  have HN := Lib.hid hn
  clear hn
  go_upto_region 4 with fail
  rw [show (5 : Int) + (x : Int) % 20000 = (n : Int) by have := HN.out; omega]
  have hn5 : 5 ≤ n := by have := HN.out; omega
  have hn20 : n ≤ 20004 := by have := HN.out; omega
  go_wp2_with (at_make; refine wpList_make_full _ rfl _ _ 22 rfl w1.heap.size 5 i0 (.int .u8 0) 1 Try.underlying22 hi0 hz0 hz1 _ _ _ _ n rfl rfl rfl rfl (by rw [hz2]; omega) (by unfold maxLen; omega) (Nat.le_refl _) ?_; intro w2 hown2 hgrow2; rw [zeros] at hown2; have HO2 := Lib.hid hown2; have HG2 := Lib.hid hgrow2; clear hown2 hgrow2)
  have HB2 := Lib.hid (HB1.out.grown HG2.out HB1.out.size (fun j hj => by cases hj))
  clear HG2 HB1
  go_loopg [21] n (fun m s21 wr => ∃ k : Nat, k + m = n ∧ s21 = .int .i64 (k : Int) ∧ Hid (Own wr w1.heap.size (.slice (some ⟨w1.heap.size, 0, none⟩) n n) (List.replicate k c ++ List.replicate (n - k) 0)) ∧ Hid (Below w.heap.size w wr))
  case atStart => exact ⟨0, by omega, rfl, Lib.hid (by simpa [Own] using HO2.out), HB2⟩
  case round =>
    clear HO2 HB2
    obtain ⟨k, hk, rfl, ho, hb⟩ := hrel
    by_cases h0 : gk = 0
    · obtain rfl : k = n := by omega
      clear hk
      rw [Nat.sub_self, List.replicate_zero, List.append_nil] at ho
      have HP := Lib.hid (pack_any (List.replicate k c) (.slice (some ⟨w1.heap.size, 0, none⟩) k k) wr (by simp; omega) ho.out.rd)
      have hl := pk_runs c k hn5
      have HL := Lib.hid hl
      clear ho hl
      go_wp2_with fail
      refine HP.out.mono ?_
      rintro e w5 ⟨ao5, cap5, rfl, _, hb5⟩
      have HB5 := Lib.hid (hb.out.trans (hb5.mono hb.out.size))
      rw [HL.out]
      clear HP hb hb5
      have hwant : Hid (((2 + runLen (k - 1) : Nat) : Int) = 2 + ((k : Int) - 1) / 131 * 3 + (if 4 ≤ ((k : Int) - 1) % 131 then 3 else if 0 < ((k : Int) - 1) % 131 then 1 + ((k : Int) - 1) % 131 else 0)) := Lib.hid (by
        unfold runLen
        (repeat' split) <;> omega)
      generalize 2 + runLen (k - 1) = M at *
      by_cases h1 : (4 : Int) ≤ ((k : Int) - 1) % 131
      · have H2 := Lib.hid (show (M : Int) = 2 + ((k : Int) - 1) / 131 * 3 + 3 by have h2 := hwant.out; rwa [if_pos h1] at h2)
        clear hwant
        go_wp2_with fail
        go_ret
        exact ⟨by congr 2; simpa using H2.out, HB5.out⟩
      · by_cases h2 : (0 : Int) < ((k : Int) - 1) % 131
        · have H2 := Lib.hid (show (M : Int) = 2 + ((k : Int) - 1) / 131 * 3 + (1 + ((k : Int) - 1) % 131) by have h3 := hwant.out; rwa [if_neg h1, if_pos h2] at h3)
          clear hwant
          go_wp2_with fail
          go_ret
          exact ⟨by congr 2; have := H2.out; simp; omega, HB5.out⟩
        · have H2 := Lib.hid (show (M : Int) = 2 + ((k : Int) - 1) / 131 * 3 by have h3 := hwant.out; rw [if_neg h1, if_neg h2] at h3; omega)
          clear hwant
          go_wp2_with fail
          go_ret
          exact ⟨by congr 2; have := H2.out; simp; omega, HB5.out⟩
    · have hlt : k < n := by omega
      obtain ⟨g, cap, he, hg1, hg2, hcell, hfr, hset⟩ := ownAt ho.out k (by simp; omega)
      simp only [Value.slice.injEq, Option.some.injEq, Addr.mk.injEq, and_true] at he
      obtain ⟨he1, he2, he3⟩ := he
      clear he2
      subst he1
      subst he3
      have hs := hset (c.toNat : Int) (by omega) (by have := c.toNat_lt; omega)
      rw [show UInt8.ofNat ((c.toNat : Int).toNat) = c by simp, rep_set c n k hlt] at hs
      have HS := Lib.hid hs
      have HB := Lib.hid (hb.out.setCell (p := ⟨w1.heap.size, k, none⟩) (by have := HB1s.out; simpa using this) (.int .u8 (c.toNat : Int)))
      have HK := Lib.hid hk
      generalize (List.replicate k c ++ List.replicate (n - k) 0)[k]'(by simp; omega) = y at hcell
      clear hset hs hk
      go_wp2_with fail
      go_roundg (gk - 1)
      case measure => go_light; omega
      case rel =>
        go_light
        exact ⟨k + 1, by have := HK.out; omega, by go_num, HS, HB⟩


theorem lzRuns_walk {H : Type} (enc : TypeId × Value → H) (W : World) (base : Nat) (v0 v1 : Value) (d0 d1 : DataW H) (p0 p1 : List MemPlace)
    (o0 : Value.okWide Try.prog W .any base 5 v0) (o1 : Value.okWide Try.prog W .any base 26 v1)
    (t0 : DataW.Trod enc Try.prog W 0 (fun _ => true) true 5 v0 d0 p0) (t1 : DataW.Trod enc Try.prog W 0 (fun _ => true) true 26 v1 d1 p1)
    (hsz : (DataW.weightsEach Try.prog [5, 26] [d0, d1]).all (· ≤ reachBytes) = true) :
    Calls Try.prog 4 #[v0, v1] W fun e W' => e = .returned (.bool true) ∧ Below W.heap.size W W' := by
  obtain ⟨c, rfl, rfl, rfl, hc⟩ := open_int Try.underlying5 o0 t0
  obtain ⟨x, rfl, rfl, rfl, hx⟩ := open_int Try.underlying26 o1 t1
  have hc2 : 0 ≤ c ∧ c ≤ 255 := by simpa [Lit.wf, IntKind.min, IntKind.max, IntKind.signed, IntKind.bits] using hc
  have hx2 : 0 ≤ x ∧ x ≤ 65535 := by simpa [Lit.wf, IntKind.min, IntKind.max, IntKind.signed, IntKind.bits] using hx
  obtain ⟨c', rfl⟩ : ∃ c' : UInt8, c = (c'.toNat : Int) := ⟨UInt8.ofNat c.toNat, by simp; omega⟩
  obtain ⟨x', rfl⟩ : ∃ x' : Nat, x = (x' : Int) := ⟨x.toNat, by omega⟩
  exact lzRuns_run c' x' (by omega) W

end Go.Proofs.Ytglpdkcpnigniaa
