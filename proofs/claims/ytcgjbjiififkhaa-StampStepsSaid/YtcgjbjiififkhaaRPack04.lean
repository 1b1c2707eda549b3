/- gristref04.Pack: what it gives is pkA, too. -/
import Derived.Test.YtcgjbjiififkhaaLit
namespace Go.Proofs.Ytcgjbjiififkhaa
open Go.RowKit
set_option linter.unusedVariables false

theorem pkA_big : ∀ (n : Nat) (l : List Nat), l.length ≤ n → ∀ x ∈ l, ¬ x < 2 ^ 60 → pkA l = none
  | 0, l, h, x, hx, _ => by
    have := List.length_pos_of_mem hx
    omega
  | n + 1, l, h, x, hx, hb => by
    have hne : l ≠ [] := List.ne_nil_of_mem hx
    cases ht : takeS l with
    | none => exact pkA_none hne ht
    | some p =>
      obtain ⟨s, W⟩ := p
      obtain ⟨hs, hW, hf⟩ := takeS_some ht
      have hp := takeN_pos ht hne
      have hwb := wds_get s hs
      rw [← hW] at hwb
      have e : l.take (60 / W) = l.take (min (60 / W) l.length) := by
        by_cases hc : 60 / W ≤ l.length
        · rw [Nat.min_eq_left hc]
        · rw [Nat.min_eq_right (by omega), List.take_of_length_le (by omega), List.take_of_length_le (by omega)]
      rw [e] at hf
      rw [pkA_some hne ht]
      have hx2 : x ∈ l.drop (min (60 / W) l.length) := by
        have hx' := hx
        rw [← List.take_append_drop (min (60 / W) l.length) l, List.mem_append] at hx'
        rcases hx' with h1 | h1
        · exfalso
          have := List.all_eq_true.1 hf x h1
          have h2 : x < 2 ^ W := of_decide_eq_true this
          have h3 : 2 ^ W ≤ 2 ^ 60 := Nat.pow_le_pow_right (by omega) hwb.2
          omega
        · exact h1
      rw [pkA_big n _ (by rw [List.length_drop]; omega) x hx2 hb]
      rfl

theorem rwidths_any (w : World) :
    Calls Try.prog 30 #[] w fun e w' => e = .returned (.slice (some ⟨w.heap.size, 0, none⟩) 14 14) ∧ w' = w.alloc (.cells wArr 3) := by
  go_enter Try.func30, Try.ntmps30
  go_wp2
  go_ret
  exact ⟨rfl, rfl⟩

theorem wcells (w3 : World) : ∀ i, i < 14 → (w3.alloc (.cells wArr 3)).cell? ⟨w3.heap.size, i, none⟩ = some (.int .i64 (wds.getD i 0 : Nat)) := by
  intro i hi
  obtain ⟨b, off, c, he, _, _, _, hc⟩ := RdV.some (RdV.lit w3 wArr 3 14 1 (by decide) rfl) (by decide) (by decide)
  simp only [Value.slice.injEq, Option.some.injEq, Addr.mk.injEq, true_and, and_true] at he
  obtain ⟨⟨rfl, rfl⟩, rfl⟩ := he
  have h14 : i = 0 ∨ i = 1 ∨ i = 2 ∨ i = 3 ∨ i = 4 ∨ i = 5 ∨ i = 6 ∨ i = 7 ∨ i = 8 ∨ i = 9 ∨ i = 10 ∨ i = 11 ∨ i = 12 ∨ i = 13 := by omega
  have := hc i (.int .i64 (wds.getD i 0 : Nat)) (by rcases h14 with rfl | rfl | rfl | rfl | rfl | rfl | rfl | rfl | rfl | rfl | rfl | rfl | rfl | rfl <;> rfl)
  simpa using this

theorem z_lt60 {i n W Z L : Nat} (hin : i < n) (h : n = min (60 / W) L) (hZ : Z = i * W) (hW : 1 ≤ W) : Z < 60 := by
  have h1 : n ≤ 60 / W := by omega
  have h2 : (i + 1) * W ≤ 60 := Nat.le_trans (Nat.mul_le_mul_right W (show i + 1 ≤ 60 / W by omega)) (Nat.div_mul_le_self 60 W)
  rw [Nat.add_mul, ← hZ] at h2
  omega

theorem or_step (T x Z : Nat) (hT : T < 18446744073709551616) (hZ : Z < 60) : ((T ||| x * 2 ^ Z % 18446744073709551616 : Nat) : Int) = bits BinOp.or IntKind.u64 (T : Int) (IntKind.u64.wrap ((x : Int) * 2 ^ Z)) := by
  have := shl_u64 x Z
  rw [Nat.min_eq_left (by omega)] at this
  rw [this, u64_or_nat _ _ hT (Nat.mod_lt _ (by decide))]

theorem x_shr (x W : Nat) (X : Bool) (h : X = decide (x < 2 ^ W)) : decide ((x : Int) / 2 ^ W = 0) = X := by
  have e : ((x : Int) / 2 ^ W = 0) ↔ x < 2 ^ W := by
    rw [show ((x : Int) / 2 ^ W) = ((x / 2 ^ W : Nat) : Int) by simp]
    rw [Int.natCast_eq_zero, Nat.div_eq_zero_iff]
    have : 0 < 2 ^ W := Nat.two_pow_pos W
    omega
  rw [h]
  exact decide_eq_decide.2 e

theorem beq_dec (a : Int) : (a == 0) = decide (a = 0) := rfl

set_option maxHeartbeats 2000000 in
set_option maxRecDepth 100000 in
theorem rpack_any (l : List Nat) (v : Value) (w : World) (hl : l.length ≤ 17592186044416) (hx : ∀ x ∈ l, x < 18446744073709551616) (hr : Nums w v l) :
    Calls Try.prog 18 #[v] w fun e w' => Below w.heap.size w w' ∧ ((pkA l = none ∧ e = .returned (.tuple #[.slice none 0 0, .int .i64 3])) ∨
      ∃ bs ao cap, pkA l = some bs ∧ bs.length ≤ 8 * l.length ∧ e = .returned (.tuple #[.slice ao bs.length cap, .int .i64 0]) ∧ Own w' w.heap.size (.slice ao bs.length cap) bs) := by
  obtain ⟨ao0, cap0, rfl, hnc, hcm⟩ := RdV.shape hr
  unfold maxLen at hcm
  have HB0 := Lib.hid ((Below.refl w.heap.size w).alloc (Nat.le_refl _) (.cells wArr 3))
  have HC := Lib.hid (wcells w)
  have HR := Lib.hid hr
  have HX := Lib.hid hx
  have hsz : w.heap.size < (w.alloc (.cells wArr 3)).heap.size := by simp
  clear hr hx
  go_enter Try.func18, Try.ntmps18
  go_wp2_with (go_at_call 30; refine (rwidths_any _).mono ?_; rintro _ _ ⟨rfl, rfl⟩)
  generalize w.alloc (.cells wArr 3) = w1 at *
  go_loopg [16] l.length (fun m s16 wr => ∃ i : Nat, i + m = l.length ∧ s16 = .int .i64 (i : Int) ∧ Hid (∀ x ∈ l.take i, x < 2 ^ 60) ∧ ∃ q, wr = w1.drewN q)
  case atStart => exact ⟨0, by omega, rfl, Lib.hid (by simp), 0, rfl⟩
  case round =>
    obtain ⟨i, hi, rfl, hA, q, rfl⟩ := hrel
    by_cases h0 : gk = 0
    · have hlen : i = l.length := by omega
      subst hlen
      clear hi
      have HALL : Hid (∀ x ∈ l, x < 2 ^ 60) := Lib.hid (fun x hx => hA.out x (by rw [List.take_length]; exact hx))
      clear hA
      go_wp2_with fail
      have HB2 : Hid (Below w.heap.size w (w1.drewN q)) := Lib.hid ⟨HB0.out.os, HB0.out.tape, HB0.out.output, HB0.out.size, HB0.out.block⟩
      have HC2 : Hid (∀ i, i < 14 → (w1.drewN q).cell? ⟨w.heap.size, i, none⟩ = some (.int .i64 (wds.getD i 0 : Nat))) := HC
      have hsz2 : w.heap.size < (w1.drewN q).heap.size := hsz
      clear HB0 HC hsz
      generalize w1.drewN q = w2 at *
      go_loopg [5, 7] l.length (fun m s5 s7 wr => ∃ (k : Nat) (ps : List UInt8) (pao : Option Addr) (pcap : Nat), k + m = l.length ∧ s7 = .int .i64 (k : Int) ∧ s5 = .slice pao ps.length pcap ∧ ps.length ≤ 8 * k ∧ Hid (pkA l = (pkA (l.drop k)).map (ps ++ ·)) ∧
        Hid (Own wr w.heap.size (.slice pao ps.length pcap) ps) ∧ Hid (∀ k, (Value.slice pao ps.length pcap).ownBlock = some k → k ≠ w.heap.size) ∧ Hid (∀ i, i < 14 → wr.cell? ⟨w.heap.size, i, none⟩ = some (.int .i64 (wds.getD i 0 : Nat))) ∧ w.heap.size < wr.heap.size ∧ Hid (Below w.heap.size w wr))
      case atStart => exact ⟨0, [], none, 0, by omega, rfl, rfl, by simp, Lib.hid (by simp), Lib.hid (Own.nil _ _), Lib.hid (by intro k hk; cases hk), HC2, hsz2, HB2⟩
      case round =>
        clear HC2 hsz2 HB2
        obtain ⟨k, ps, pao, pcap, hk, rfl, rfl, hpl, HP, HO, HK, HC, hsz, HB⟩ := hrel
        obtain ⟨g0, hg0⟩ : ∃ g, g = gk := ⟨gk, rfl⟩
        have HG0 := Lib.hid hg0
        have HKG := Lib.hid hk
        clear hg0
        by_cases h1 : gk = 0
        · obtain rfl : k = l.length := by omega
          clear hk
          go_wp2_with fail
          go_ret2
          refine ⟨HB.out, .inr ⟨ps, pao, pcap, ?_, by omega, by go_light; rfl, HO.out⟩⟩
          rw [HP.out, List.drop_length, pkA_nil]
          simp
        · have hkl : k < l.length := by omega
          clear hk h1 h0
          have hR0 : ∀ wr, Below w.heap.size w wr → ∀ t, k + t < l.length → ∃ b off, ao0 = some ⟨b, off, none⟩ ∧ wr.cell? ⟨b, off + (k + t), none⟩ = some (.int .u64 ((l.drop k).getD t 0 : Nat)) := by
            intro wr hb t ht
            obtain ⟨b, off, cap', he, _, hc⟩ := num_at (RdV.below HR.out hb) (k + t) ht
            simp only [Value.slice.injEq, true_and] at he
            refine ⟨b, off, he.1, ?_⟩
            rw [hc]
            simp [List.getD_eq_getElem?_getD]
          have HR1 := Lib.hid hR0
          have hXr : Hid (∀ x ∈ l.drop k, x < 18446744073709551616) := Lib.hid (fun x hx => HX.out x (List.mem_of_mem_drop hx))
          have hne : Hid (takeS (l.drop k) ≠ none) := Lib.hid (by
            rw [List.drop_eq_getElem_cons hkl]
            intro h
            exact takeS_none.1 h (HALL.out _ (List.getElem_mem hkl)))
          have hrl : Hid ((l.drop k).length = l.length - k) := Lib.hid List.length_drop
          have hnil : Hid (l.drop k ≠ []) := Lib.hid (by intro h; have := congrArg List.length h; rw [List.length_drop] at this; simp at this; omega)
          have HDD : Hid (∀ n, (l.drop k).drop n = l.drop (k + n)) := Lib.hid (fun n => List.drop_drop)
          clear hR0
          generalize l.drop k = r at *
          generalize wr = wo at *
          go_wp2_with fail
          go_loopg [5, 7, 31] 14 (fun m s5 s7 s31 wr => s5 = .slice pao ps.length pcap ∧ s7 = .int .i64 (k : Int) ∧ ∃ s : Nat, s + m = 14 ∧ s31 = .int .i64 (s : Int) ∧ Hid (takeF r s (wds.drop s) = takeS r) ∧ ∃ q, wr = wo.drewN q)
          case atStart => exact ⟨rfl, rfl, 0, rfl, rfl, Lib.hid rfl, 0, rfl⟩
          case round =>
            obtain ⟨rfl, rfl, s, hs, rfl, hT, q1, rfl⟩ := hrel
            by_cases h1 : gk = 0
            · obtain rfl : s = 14 := by omega
              exfalso
              apply hne.out
              rw [← hT.out]
              rfl
            · have hs14 : s < 14 := by omega
              have hTS := Lib.hid (takeF_step r s hs14)
              have hcW : (wo.drewN q1).cell? ⟨w.heap.size, s, none⟩ = some (.int .i64 (wds.getD s 0 : Nat)) := HC.out s hs14
              have hW := wds_get s hs14
              obtain ⟨W, hWe⟩ : ∃ W, W = wds.getD s 0 := ⟨_, rfl⟩
              rw [← hWe] at hcW hW hTS
              obtain ⟨n, hne2⟩ : ∃ n, n = min (60 / W) r.length := ⟨_, rfl⟩
              have hnl : n ≤ r.length := by omega
              have hn60 : n ≤ 60 := by have : 60 / W ≤ 60 := Nat.div_le_self _ _; omega
              have HNE := Lib.hid hne2
              have HWE := Lib.hid hWe
              have hW0 : ¬ W = 0 := by omega
              have hHC : Hid (∀ q, (wo.drewN q).cell? ⟨w.heap.size, s, none⟩ = some (.int .i64 (W : Int))) := Lib.hid (fun q => by rw [hWe]; exact HC.out s hs14)
              have HS := Lib.hid hs
              obtain ⟨g1, hg1⟩ : ∃ g, g = gk := ⟨gk, rfl⟩
              have HG1 := Lib.hid hg1
              clear hWe hne2 hg1 h1 hs
              go_upto_region 14 with fail
              go_cut [9] (fun s9 wx => s9 = .int .i64 (n : Int) ∧ wx = wo.drewN q1)
              case first =>
                go_wp2_with fail
                all_goals go_meet
                all_goals go_light
                all_goals (refine ⟨?_, rfl⟩; congr 1; have h1 := HNE.out; have h2 := hrl.out; have h3 : ((60 / W : Nat) : Int) = 60 / (W : Int) := (by simp); omega)
              case rest =>
              obtain ⟨rfl, rfl⟩ := hcut
              have hword0 : Hid (wordT W s r 0 = s * 1152921504606846976) := Lib.hid (by show s * 2 ^ 60 % 18446744073709551616 = _; omega)
              clear hcW
              go_wp2_with fail
              go_loopg [10, 11, 48] n (fun m s10 s11 s48 wr => ∃ i : Nat, i + m = n ∧ s48 = .int .i64 (i : Int) ∧ s10 = .int .u64 ((wordT W s r i : Nat) : Int) ∧ s11 = .bool (fitsB (r.take i) W) ∧ ∃ q, wr = wo.drewN q)
              case atStart => exact ⟨0, by omega, rfl, by rw [hword0.out]; simp, by simp [fitsB], q1, rfl⟩
              case round =>
                obtain ⟨i, hi, rfl, rfl, rfl, q, rfl⟩ := hrel
                by_cases h1 : gk = 0
                · obtain rfl : i = n := by omega
                  clear hi
                  cases hf : fitsB (r.take i) W with
                  | true =>
                    have e : r.take i = r.take (60 / W) := by
                      have := HNE.out
                      by_cases hc : 60 / W ≤ r.length
                      · rw [show i = 60 / W by omega]
                      · rw [List.take_of_length_le (by omega), List.take_of_length_le (by omega)]
                    have hTk : takeS r = some (s, W) := by
                      rw [e] at hf
                      rw [← hT.out, hTS.out, if_pos hf]
                    have hps := pkA_some hnil.out hTk
                    rw [← HNE.out, show wordN W s r = wordT W s r i by unfold wordN; rw [← HNE.out]] at hps
                    have HPS := Lib.hid hps
                    have hi1 : 1 ≤ i := by have := takeN_pos hTk hnil.out; have := HNE.out; omega
                    have hTl : wordT W s r i < 18446744073709551616 := wordT_lt W s r i
                    clear e hTk hps hf
                    generalize wordT W s r i = T at *
                    have hO4 : Hid (Own (wo.drewN q) w.heap.size (.slice pao ps.length pcap) ps) := HO
                    have hB4 : Hid (Below w.heap.size w (wo.drewN q)) := Lib.hid ⟨HB.out.os, HB.out.tape, HB.out.output, HB.out.size, HB.out.block⟩
                    have hA4 : Hid (∀ k < 14, (wo.drewN q).cell? ⟨w.heap.size, k, none⟩ = some (.int .i64 (wds.getD k 0 : Nat))) := HC
                    have hAl4 : w.heap.size < (wo.drewN q).heap.size := hsz
                    have hKL := hrl.out
                    clear HO HB HC hsz hHC
                    generalize wo.drewN q = w4 at *
                    go_wp2_with (first
                      | (go_at_call 17; refine Calls.mono (eight_any T hTl _) ?_; rintro _ w5 ⟨tao, tcap, rfl, ho5, hb5⟩; have HO5 := Lib.hid ho5; have HB5 := Lib.hid hb5; clear ho5 hb5; have HO6 := Lib.hid ((Chg.ofBelowAny (S := fun _ => False) HB5.out).owns hO4.out (fun _ _ h => h)); have hlen8 := be8_len T; have hls : ps.length + (be8 T).length ≤ 140737488355328 := (by omega); have hbs5 : w.heap.size ≤ w5.heap.size := (by have := HB5.out.size; omega); clear hlen8)
                      | (at_builtin; refine wpList_append_bs _ rfl (.tmp 85) (.tmp 87) rfl w.heap.size (.slice pao ps.length pcap) ps rfl HO6.out (.slice tao (be8 T).length tcap) (be8 T) rfl HO5.out.rd hls hbs5 ?_; intro ao6 cap6 w6 hg6; have HG := Lib.hid hg6; clear hg6 HO5))
                    go_roundg (g0 - i)
                    case measure => go_light; have h1 := HG0.out; have h2 := HKG.out; omega
                    case rel =>
                      go_light
                      have hd := HDD.out i
                      refine ⟨k + i, ps ++ be8 T, ao6, cap6, by have h1 := HG0.out; have h2 := HKG.out; omega, by go_num, by simp, by simp only [List.length_append, be8_len]; omega, Lib.hid ?_, Lib.hid HG.out.owns, Lib.hid (fun k hk => ?_), Lib.hid (fun k hk => ?_), ?_, Lib.hid ?_⟩
                      · rw [HP.out, HPS.out, Option.map_map, hd]
                        simp [Function.comp_def, List.append_assoc]
                      · rcases HG.out.row k hk with h | h
                        · exact HK.out k h
                        · have := HB5.out.size; omega
                      · rw [HG.out.chg.cell (p := ⟨w.heap.size, k, none⟩) (by have := HB5.out.size; simp; omega) (fun h => HK.out _ h rfl), HB5.out.cell hAl4]
                        exact hA4.out k hk
                      · have h1 := HG.out.grown.size; have h2 := HB5.out.size; omega
                      · exact (hB4.out.trans (HB5.out.mono hB4.out.size)).trans (HG.out.below hbs5 (fun k hk => (HO6.out.lt k hk).1))
                  | false =>
                    go_wp2_with fail
                    go_roundg (g1 - 1)
                    case measure => go_light; have h1 := HG1.out; have h2 := HS.out; omega
                    case rel =>
                      go_light
                      have e : r.take i = r.take (60 / W) := by
                        have := HNE.out
                        by_cases hc : 60 / W ≤ r.length
                        · rw [show i = 60 / W by omega]
                        · rw [List.take_of_length_le (by omega), List.take_of_length_le (by omega)]
                      rw [e] at hf
                      refine ⟨rfl, rfl, s + 1, by have h1 := HG1.out; have h2 := HS.out; omega, by go_num, ?_, q, rfl⟩
                      have h := hT.out
                      rw [hTS.out, if_neg (by rw [hf]; simp)] at h
                      exact Lib.hid h
                · have hin : i < n := by omega
                  have hkb : k + i < l.length := by have := hrl.out; omega
                  obtain ⟨b, off, he, hc⟩ := HR1.out wo HB.out i hkb
                  subst he
                  have hcW : wo.cell? ⟨w.heap.size, s, none⟩ = some (.int .i64 (W : Int)) := hHC.out 0
                  have hxi : r.getD i 0 < 18446744073709551616 := by
                    have : i < r.length := by omega
                    rw [show r.getD i 0 = r[i] by simp [this]]
                    exact hXr.out _ (List.getElem_mem this)
                  have hfn : Hid (fitsB (r.take (i + 1)) W = (fitsB (r.take i) W && decide (r.getD i 0 < 2 ^ W))) := Lib.hid (by
                    have : i < r.length := by omega
                    rw [show r.getD i 0 = r[i] by simp [this]]
                    unfold fitsB
                    rw [List.take_succ_eq_append_getElem this, List.all_append]
                    simp)
                  have hwl := wordT_lt W s r i
                  have hiW : i * W < 4000 := Nat.lt_of_le_of_lt (Nat.mul_le_mul (show i ≤ 60 by omega) hW.2) (by decide)
                  have hnext : Hid (wordT W s r (i + 1) = wordT W s r i ||| (r.getD i 0 * 2 ^ (i * W) % 18446744073709551616)) := Lib.hid rfl
                  obtain ⟨Z, hZ⟩ : ∃ Z, Z = i * W := ⟨_, rfl⟩
                  rw [← hZ] at hiW hnext
                  have hm1 : IntKind.i64.wrap ((i : Int) * (W : Int)) = (Z : Int) := by
                    rw [show (i : Int) * (W : Int) = (Z : Int) by rw [hZ]; simp]
                    exact IntWalk.i64_in _ (by omega)
                  have hZ60 : Z < 60 := z_lt60 hin HNE.out hZ hW.1
                  clear hZ hiW
                  generalize wordT W s r i = T at *
                  generalize r.getD i 0 = x at *
                  have HWL := Lib.hid hwl
                  have HXI := Lib.hid hxi
                  clear hwl hxi
                  obtain ⟨j, hj⟩ : ∃ j, j = k + i := ⟨_, rfl⟩
                  rw [← hj] at hc hkb
                  have t1 : (k : Int) + (i : Int) = (j : Int) := by omega
                  have t5 : IntKind.i64.wrap (j : Int) = (j : Int) := IntWalk.i64_in _ (by omega)
                  clear hj
                  have hnx : Hid (wrap64 ((i : Int) + 1) = ((i + 1 : Nat) : Int)) := Lib.hid (by rw [← IntWalk.i64_left, IntWalk.i64_in _ (by omega)]; omega)
                  have HIN := Lib.hid hin
                  have HN60 := Lib.hid hn60
                  have HLL := Lib.hid hl
                  have HPL := Lib.hid hpl
                  have HNL := Lib.hid hnl
                  have HKL := Lib.hid hkl
                  have hwb : W ≤ 60 := hW.2
                  clear hl hcm hnc hpl hkl hnl hn60 hin hW
                  go_upto_region 20 with fail
                  generalize fitsB (r.take i) W = F at *
                  cases F with
                  | false =>
                    go_quiet (fail)
                    go_upto_region 21 with fail
                    go_quiet (fail)
                    go_wp2_with fail
                    go_roundg (gk - 1)
                    case measure => go_light; have := HIN.out; omega
                    case rel =>
                      go_light
                      have hor := or_step T x Z HWL.out hZ60
                      have hw0 := HIN.out
                      have hw1 := HN60.out
                      refine ⟨i + 1, by omega, by rw [hnx.out], by rw [hnext.out, hor], by rw [hfn.out]; simp, _, rfl⟩
                  | true =>
                    obtain ⟨X, hX⟩ : ∃ X, X = decide (x < 2 ^ W) := ⟨_, rfl⟩
                    rw [← hX] at hfn
                    have hX2 := x_shr x W X hX
                    clear hX
                    go_quiet (fail)
                    go_upto_region 21 with fail
                    go_quiet (fail)
                    go_wp2_with fail
                    go_roundg (gk - 1)
                    case measure => go_light; have := HIN.out; omega
                    case rel =>
                      go_light
                      have hor := or_step T x Z HWL.out hZ60
                      have hw0 := HIN.out
                      have hw1 := HN60.out
                      refine ⟨i + 1, by omega, by rw [hnx.out], by rw [hnext.out, hor], by rw [hfn.out]; simp [beq_dec, hX2], _, rfl⟩
    · have hil : i < l.length := by omega
      have hN : Nums (w1.drewN q) (.slice ao0 l.length cap0) l := RdV.below HR.out (by have := HB0.out; exact ⟨this.os, this.tape, this.output, this.size, this.block⟩)
      obtain ⟨b, off, bcap, he, hb, hc⟩ := num_at hN i hil
      simp only [Value.slice.injEq, true_and] at he
      obtain ⟨rfl, rfl⟩ := he
      clear hN
      have hxi : l.getD i 0 < 18446744073709551616 := by
        rw [show l.getD i 0 = l[i] by simp [hil]]
        exact HX.out _ (List.getElem_mem hil)
      have hmem : Hid (l.getD i 0 ∈ l) := Lib.hid (by rw [show l.getD i 0 = l[i] by simp [hil]]; exact List.getElem_mem hil)
      have hstep : Hid (∀ x ∈ l.take (i + 1), x = l.getD i 0 ∨ x ∈ l.take i) := Lib.hid (by
        intro x hx
        rw [List.take_succ_eq_append_getElem hil, List.mem_append] at hx
        rcases hx with h | h
        · exact .inr h
        · left; simpa [hil] using h)
      generalize l.getD i 0 = x at *
      by_cases hbig : x < 1152921504606846976
      · have hI : decide ((1152921504606846976 : Int) ≤ (x : Int)) = false := decide_eq_false (by omega)
        have HBG := Lib.hid hbig
        clear hbig
        generalize hXX : decide ((1152921504606846976 : Int) ≤ (x : Int)) = XX at *
        subst hI
        go_wp2_with fail
        go_roundg (gk - 1)
        case measure => go_light; omega
        case rel =>
          go_light
          refine ⟨i + 1, by omega, by go_num, Lib.hid (fun y hy => ?_), q, rfl⟩
          rcases hstep.out y hy with rfl | h
          · exact HBG.out
          · exact hA.out y h
      · have hI : decide ((1152921504606846976 : Int) ≤ (x : Int)) = true := decide_eq_true (by omega)
        have HP := Lib.hid (pkA_big _ l (Nat.le_refl _) x hmem.out hbig)
        clear hbig
        generalize hXX : decide ((1152921504606846976 : Int) ≤ (x : Int)) = XX at *
        subst hI
        go_wp2_with fail
        go_ret2
        exact ⟨⟨HB0.out.os, HB0.out.tape, HB0.out.output, HB0.out.size, HB0.out.block⟩, .inl ⟨HP.out, by go_light; rfl⟩⟩
end Go.Proofs.Ytcgjbjiififkhaa
