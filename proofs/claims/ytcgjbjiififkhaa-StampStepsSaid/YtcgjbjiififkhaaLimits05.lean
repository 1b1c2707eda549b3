/- StampLimits' walk: up to MostBlock times are packed, and none, and more, and such as don't rise are refused. -/
import Derived.Test.YtcgjbjiififkhaaAwake05
namespace Go.Proofs.Ytcgjbjiififkhaa
open Go.RowKit Go.ChangeShapes Go.WideShapes Go.ChangeAt
set_option linter.unusedVariables false

def OwnT (w : World) (base : Nat) (v : Value) (l : List Int) : Prop := w.ownsRow base 2 1 v l.length (l.map tV)
theorem OwnT.tms {w : World} {base : Nat} {v : Value} {l : List Int} (h : OwnT w base v l) : Tms w v l := RdV.ofOwns h

def sq (n : Nat) : List Int := upto (fun i => (i : Int) * (i : Int)) n
theorem sq_len (n : Nat) : (sq n).length = n := upto_len _ _
theorem sq_next (n : Nat) : sq (n + 1) = sq n ++ [(n : Int) * (n : Int)] := upto_next _ _
theorem sq_get (n i : Nat) (h : i < n) : (sq n).getD i 0 = (i : Int) * (i : Int) := by simp [sq, upto, h]
theorem sq_ok (n : Nat) (h : n ≤ 2000) : ∀ x ∈ sq n, i64ok x := by
  intro x hx
  obtain ⟨i, hi, rfl⟩ := List.mem_map.1 hx
  have hi2 : i < n := List.mem_range.1 hi
  have : i * i ≤ 2000 * 2000 := Nat.mul_le_mul (by omega) (by omega)
  unfold i64ok
  rw [← Int.natCast_mul]
  omega
theorem sq_ris (n : Nat) : ∀ k, k + 1 ≤ n → risF (sq n) k = true
  | 0, _ => rfl
  | k + 1, h => by
    rw [risF_next, sq_ris n k (by omega), sq_get n k (by omega), sq_get n (k + 1) (by omega)]
    have h1 : k * k < (k + 1) * (k + 1) := Nat.mul_lt_mul_of_lt_of_le (by omega) (by omega) (by omega)
    simp only [Bool.true_and, decide_eq_true_eq]
    rw [← Int.natCast_mul, ← Int.natCast_mul]
    omega
theorem sq_enc (n : Nat) (h1 : 1 ≤ n) (h2 : n ≤ 1000) : encS (sq n) = some (encB (sq n)) :=
  encS_some (by rw [sq_len]; omega) (by rw [sq_len]; omega) (by rw [sq_len]; exact sq_ris n _ (by omega))
theorem sq_not (n : Nat) (h : n = 0 ∨ 1000 < n) : encS (sq n) = none :=
  encS_none (by rw [sq_len]; rcases h with h | h; exact .inl h; exact .inr (.inl h))
theorem set_not (l : List Int) (k : Nat) (hk : 1 ≤ k) (hl : k < l.length) : encS (l.set k (l.getD (k - 1) 0)) = none := by
  refine encS_none (.inr (.inr ?_))
  rw [List.length_set]
  refine risF_false (k := k - 1) (by omega) ?_
  have e1 : (l.set k (l.getD (k - 1) 0)).getD (k - 1) 0 = l.getD (k - 1) 0 := by
    rw [List.getD_eq_getElem?_getD, List.getElem?_set_ne (by omega), ← List.getD_eq_getElem?_getD]
  have e2 : (l.set k (l.getD (k - 1) 0)).getD (k - 1 + 1) 0 = l.getD (k - 1) 0 := by
    rw [show k - 1 + 1 = k by omega, List.getD_eq_getElem?_getD, List.getElem?_set_self hl]
    rfl
  rw [e1, e2]
  omega

theorem ownT_shape {w : World} {base n cap : Nat} {ao : Option Addr} {l : List Int} (h : OwnT w base (.slice ao n cap) l) (h0 : 0 < l.length) :
    ∃ g, ao = some ⟨g, 0, none⟩ ∧ base ≤ g ∧ n = l.length ∧ (∀ i, i < l.length → w.cell? ⟨g, i, none⟩ = some (.int .i64 (l.getD i 0))) ∧ (∀ i, w.frozen? ⟨g, i, none⟩ = false) ∧ ∀ i y, OwnT (w.setCell ⟨g, i, none⟩ (tV y)) base (.slice ao n cap) (l.set i y) := by
  have h1 : w.ownsRow base 2 1 (.slice ao n cap) l.length (l.map tV) := h
  rcases h1.2 with ⟨_, hn⟩ | ⟨g, cap', cur, he, hb, rest⟩
  · omega
  · simp only [Value.slice.injEq] at he
    obtain ⟨rfl, hn, rfl⟩ := he
    subst hn
    refine ⟨g, rfl, hb, rfl, fun i hi => ?_, fun i => h1.frozenAt i, fun i y => ?_⟩
    · rw [h1.cellAt i (by omega)]
      simp [hi, tV]
    · have := (h1.stored i (tV y)).1
      unfold OwnT
      rw [List.length_set, List.map_set]
      exact this

set_option maxHeartbeats 2000000 in
set_option maxRecDepth 100000 in
theorem stampLimits_run (n a : Nat) (hn : n ≤ 65535) (ha : a ≤ 65535) (w : World) :
    Calls Try.prog 4 #[.int .u16 (n : Int), .int .u16 (a : Int)] w fun e w' => e = .returned (.bool true) ∧ Below w.heap.size w w' := by
  obtain ⟨c, hc⟩ : ∃ c, c = n % 1005 := ⟨_, rfl⟩
  have hc5 : c < 1005 := by omega
  have hcI : (n : Int) % 1005 = (c : Int) := by omega
  clear hc
  go_enter Try.func4, Try.ntmps4
  go_wp2_with fail
  refine (awake05_any w).mono ?_
  rintro e w1 ⟨rfl, hb1⟩
  have HB1 := Lib.hid hb1
  clear hb1
  go_wp2_with fail
  clear hcI
  go_loopg [6, 19] c (fun m s6 s19 wr => ∃ (k : Nat) (ao : Option Addr) (cap : Nat), k + m = c ∧ s19 = .int .i64 (k : Int) ∧ s6 = .slice ao k cap ∧ Hid (OwnT wr w.heap.size (.slice ao k cap) (sq k)) ∧ Hid (Below w.heap.size w wr))
  case atStart => exact ⟨0, none, 0, by omega, rfl, rfl, Lib.hid (World.ownsRow_nil _ _ _ _), HB1⟩
  case round =>
    obtain ⟨k, ao, cap, hk, rfl, rfl, HO, HB⟩ := hrel
    by_cases h0 : gk = 0
    · obtain rfl : k = c := by omega
      clear hk
      have hT : Tms wr (.slice ao k cap) (sq k) := by have := HO.out.tms; exact this
      have hE := encode_any (sq k) _ wr (sq_ok k (by omega)) hT
      clear hT
      obtain ⟨p, hp⟩ : ∃ p, p = stO (sq k) := ⟨_, rfl⟩
      have HP := Lib.hid hp
      have HPV : Hid ((p.2 = 0 ∧ 1 ≤ k ∧ k ≤ 1000) ∨ (p.2 = 1 ∧ (k = 0 ∨ 1000 < k))) := Lib.hid (by
        by_cases h : 1 ≤ k ∧ k ≤ 1000
        · left; rw [hp]; unfold stO; rw [sq_enc k h.1 h.2]; exact ⟨rfl, h⟩
        · right; rw [hp]; unfold stO; rw [sq_not k (by omega)]; exact ⟨rfl, by omega⟩)
      clear hp
      go_upto_region 11 with (go_at_call 10; refine hE.mono ?_; intro e w2 h; obtain ⟨hb2, ao2, cap2, rfl, hr2, _⟩ := stO_one h; rw [← HP.out] at hr2 ⊢; have HB2 := Lib.hid (HB.out.trans (hb2.mono HB.out.size)); have HO2 := Lib.hid (show OwnT w2 w.heap.size (.slice ao k cap) (sq k) from (Chg.ofBelowAny (S := fun _ => False) hb2).owns HO.out (fun _ _ h => h)); clear h hb2 hr2 hE HO HB)
      obtain ⟨bs, m⟩ := p
      dsimp only at *
      go_cut [42] (fun s42 wx => s42 = .bool false ∧ wx = w2)
      case first =>
        rcases HPV.out with ⟨rfl, h1, h2⟩ | ⟨rfl, h1 | h1⟩
        · have h3 : (1 : Int) ≤ (k : Int) := by omega
          have h4 : (k : Int) ≤ 1000 := by omega
          go_wp2_with fail
          all_goals go_meet
          all_goals go_light
          all_goals exact ⟨rfl, rfl⟩
        · have h3 : ¬ (1 : Int) ≤ (k : Int) := by omega
          clear h1
          go_wp2_with fail
          all_goals go_meet
          all_goals go_light
          all_goals exact ⟨rfl, rfl⟩
        · have h3 : (1 : Int) ≤ (k : Int) := by omega
          have h4 : ¬ (k : Int) ≤ 1000 := by omega
          go_wp2_with fail
          all_goals go_meet
          all_goals go_light
          all_goals exact ⟨rfl, rfl⟩
      case rest =>
      obtain ⟨rfl, rfl⟩ := hcut
      by_cases hk2 : (k : Int) < 2
      · go_wp2_with fail
        go_ret
        exact ⟨rfl, HB2.out⟩
      · have hkk : 2 ≤ k := by omega
        obtain ⟨j, hj⟩ : ∃ j, j = 1 + a % (k - 1) := ⟨_, rfl⟩
        have hj1 : 1 ≤ j := by omega
        have hjk : j < k := by have := Nat.mod_lt a (show 0 < k - 1 by omega); omega
        obtain ⟨k1, hk1⟩ : ∃ k1, k1 = k - 1 := ⟨_, rfl⟩
        have hkI : (k : Int) - 1 = (k1 : Int) := by omega
        have hk10 : ¬ (k1 : Int) = 0 := by omega
        have hjI : 1 + (a : Int) % (k1 : Int) = (j : Int) := by rw [hj, ← hk1]; simp
        obtain ⟨j1, hj1e⟩ : ∃ j1, j1 = j - 1 := ⟨_, rfl⟩
        have hjj : (j : Int) - 1 = (j1 : Int) := by omega
        have hj1k : j1 < k := by omega
        obtain ⟨g, rfl, hgb, h9, hgc, hgf, hput⟩ := ownT_shape HO2.out (by rw [sq_len]; omega)
        clear h9
        have hc1 := hgc j1 (by rw [sq_len]; exact hj1k)
        have hc2 := hgc j (by rw [sq_len]; exact hjk)
        have hf2 := hgf j
        have HPUT := Lib.hid (hput j ((sq k).getD j1 0))
        have HNOT := Lib.hid (set_not (sq k) j hj1 (by rw [sq_len]; exact hjk))
        rw [← hj1e] at HNOT
        have hokl : Hid (∀ x ∈ (sq k).set j ((sq k).getD j1 0), i64ok x) := Lib.hid (fun x hx => by
          rcases List.mem_or_eq_of_mem_set hx with h | h
          · exact sq_ok k (by omega) x h
          · rw [h]; refine sq_ok k (by omega) _ ?_
            rw [List.getD_eq_getElem?_getD, List.getElem?_eq_getElem (by rw [sq_len]; exact hj1k)]
            exact List.getElem_mem _)
        have hll : ((sq k).set j ((sq k).getD j1 0)).length = k := by rw [List.length_set, sq_len]
        have HLL := Lib.hid hll
        clear hgc hgf hput hj hk1 hj1e hll
        generalize (sq k).getD j1 0 = y at *
        generalize (sq k).getD j 0 = z at *
        generalize (sq k).set j y = l2 at *
        go_upto_region 17 with fail
        have hTT : Tms (wc.setCell ⟨g, j, none⟩ (.int .i64 y)) (.slice (some ⟨g, 0, none⟩) k cap) l2 := HPUT.out.tms
        have hE2 := encode_any l2 _ _ hokl.out hTT
        have HBZ := Lib.hid (HB2.out.setCell (p := ⟨g, j, none⟩) hgb (.int .i64 y))
        clear hTT HPUT
        generalize wc.setCell ⟨g, j, none⟩ (.int .i64 y) = w5 at *
        go_wp2_with (go_at_call 10; refine hE2.mono ?_; rintro e w6 ⟨hb6, h⟩; rw [HNOT.out] at h; rcases h with ⟨_, rfl⟩ | ⟨_, _, _, h, _⟩; have HB6 := Lib.hid (HBZ.out.trans (hb6.mono HBZ.out.size)); clear hb6 hE2; rotate_left 1; cases h)
        go_ret
        exact ⟨rfl, HB6.out⟩
    · have hkc : k < c := by omega
      have hsq : k * k ≤ 1005 * 1005 := Nat.mul_le_mul (by omega) (by omega)
      have hZ : IntKind.i64.wrap ((k : Int) * (k : Int)) = (((k * k : Nat)) : Int) := by rw [← Int.natCast_mul]; exact IntWalk.i64_in _ (by omega)
      obtain ⟨Z, hZZ⟩ : ∃ Z, Z = k * k := ⟨_, rfl⟩
      rw [← hZZ] at hZ hsq
      have hnx := Lib.hid (sq_next k)
      have HZZ := Lib.hid (show (Z : Int) = (k : Int) * (k : Int) by rw [hZZ, Int.natCast_mul])
      have hO1 : Hid (wr.ownsRow w.heap.size 2 1 (.slice ao k cap) k ((sq k).map tV)) := Lib.hid (by have := HO.out; unfold OwnT at this; rwa [sq_len] at this)
      have h63 : Hid (k + 1 ≤ maxLen) := Lib.hid (by unfold maxLen; omega)
      have hby : Hid ((k + 1) * 8 ≤ 140737488355328) := Lib.hid (by omega)
      have hba : Hid (∀ o, w.heap.size ≤ (wr.alloc o).heap.size) := Lib.hid (fun o => by have h6 := HB.out.size; have e2 : (wr.alloc o).heap.size = wr.heap.size + 1 := (by simp); omega)
      clear hZZ HO
      go_wp2_with (at_builtin; refine wpList_append_rd _ rfl (.tmp 22) (.tmp 26) 22 rfl w.heap.size 2 (.int .i64 0) 1 8 Try.underlying22 infoI64 rfl (by decide) (.slice ao k cap) k ((sq k).map tV) rfl (World.ownsRow.alloc hO1.out _) (.slice (some ⟨wr.heap.size, 0, none⟩) 1 1) 1 [tV (Z : Int)] rfl (RdV.one wr _ 2) (one_one _ rfl) h63.out hby.out (hba.out _) ?_; intro ao6 cap6 w6 hg6; have HG := Lib.hid hg6.ofAlloc; clear hg6)
      go_roundg (gk - 1)
      case measure => go_light; omega
      case rel =>
        go_light
        refine ⟨k + 1, ao6, cap6, by omega, by go_num, rfl, Lib.hid ?_, Lib.hid (HB.out.trans (HG.out.below HB.out.size (fun j hj => (World.ownsRow.lt hO1.out j hj).1)))⟩
        unfold OwnT
        rw [sq_len, hnx.out, List.map_append, ← HZZ.out]
        exact HG.out.owns
theorem stampLimits_walk {H : Type} (enc : TypeId × Value → H) (W : World) (base : Nat) (v0 v1 : Value) (d0 d1 : DataW H) (p0 p1 : List MemPlace)
    (o0 : Value.okWide Try.prog W .any base 29 v0) (o1 : Value.okWide Try.prog W .any base 29 v1)
    (t0 : DataW.Trod enc Try.prog W 0 (fun _ => true) true 29 v0 d0 p0) (t1 : DataW.Trod enc Try.prog W 0 (fun _ => true) true 29 v1 d1 p1)
    (hsz : (DataW.weightsEach Try.prog [29, 29] [d0, d1]).all (· ≤ reachBytes) = true) :
    Calls Try.prog 4 #[v0, v1] W fun e W' => e = .returned (.bool true) ∧ Below W.heap.size W W' := by
  obtain ⟨a0, rfl, rfl, rfl, w0⟩ := open_int Try.underlying29 o0 t0
  obtain ⟨a1, rfl, rfl, rfl, w1⟩ := open_int Try.underlying29 o1 t1
  have hx := wf_u16' w0
  have hy := wf_u16' w1
  obtain ⟨n, rfl⟩ := Int.eq_ofNat_of_zero_le hx.1
  obtain ⟨m, rfl⟩ := Int.eq_ofNat_of_zero_le hy.1
  exact stampLimits_run n m (by omega) (by omega) W
end Go.Proofs.Ytcgjbjiififkhaa
