/- tomb.Encode. -/
import Derived.Test.YtmhmmnleijadnaaTombPlain
import Derived.Test.YtmhmmnleijadnaaTheirs13
import Derived.Test.YtmhmmnleijadnaaAppStr
namespace Go.Proofs.Ytmhmmnleijadnaa
open Go.RowKit Go.ChangeShapes Go.WideShapes Go.ChangeAt
set_option linter.unusedVariables false

set_option maxHeartbeats 2000000 in
set_option maxRecDepth 100000 in
theorem tencode_any (l : List Tm) (v : Value) (w : World) (hl : (encTs l).length ≤ 100000000) (hr : RdV w 4 v l.length (l.flatMap Tm.cells)) :
    Calls Try.prog 17 #[v] w fun e w' => TeEnd l w e w' := by
  obtain ⟨ao0, cap0, rfl, hnc, hcm⟩ := RdV.shape hr
  unfold maxLen at hcm
  have HR := Lib.hid hr
  have HL := Lib.hid hl
  have hb0 := (Below.refl w.heap.size w).alloc (Nat.le_refl _) newWr
  have HB0 := Lib.hid hb0
  clear hr hl hb0
  go_enter Try.func17, Try.ntmps17
  go_wp2_with (go_at_call 29; refine (newWriter_any _).mono ?_; rintro _ _ ⟨rfl, rfl⟩)
  generalize w.alloc newWr = w1 at *
  go_loopg [5, 13] l.length (fun m s5 s13 wr => ∃ (k : Nat) (cs : List UInt8) (ao : Option Addr) (cap : Nat), k + m = l.length ∧ s13 = .int .i64 (k : Int) ∧ s5 = .slice ao cs.length cap ∧ Hid (cs = encTs (l.take k)) ∧ Hid ((l.take k).all fitT = true) ∧ Hid (Own wr w.heap.size (.slice ao cs.length cap) cs) ∧ Hid (Below w.heap.size w wr))
  case atStart => exact ⟨0, [], none, 0, by omega, rfl, rfl, Lib.hid rfl, Lib.hid rfl, Lib.hid (Own.nil _ _), HB0⟩
  case round =>
    clear HB0
    obtain ⟨k, cs, ao, cap, hk, rfl, rfl, HC, HF, HO, HB⟩ := hrel
    by_cases h0 : gk = 0
    · obtain rfl : k = l.length := by omega
      have hf := HF.out
      have hc := HC.out
      rw [List.take_length] at hf hc
      have HE := Lib.hid (encT_some hf)
      have HC2 := Lib.hid hc
      clear hf hc
      go_wp2_with fail
      go_ret2
      exact ⟨HB.out, .inr ⟨cs, ao, cap, by rw [HE.out, HC2.out], by go_light; rfl, HO.out⟩⟩
    · have hkl : k < l.length := by omega
      obtain ⟨b, off, bcap, he, e0, e1, e2, e3⟩ := tomb_at (RdV.below HR.out HB.out) k hkl
      simp only [Value.slice.injEq, true_and] at he
      obtain ⟨rfl, rfl⟩ := he
      have HNX := Lib.hid (encTs_next l k hkl)
      have HLE := Lib.hid (encTs_le l (k + 1))
      have HM := Lib.hid (List.getElem_mem hkl)
      have HFN : Hid ((l.take (k + 1)).all fitT = ((l.take k).all fitT && fitT l[k])) := Lib.hid (by rw [List.take_succ_eq_append_getElem hkl, List.all_append]; simp)
      generalize l[k] = t at *
      have hf := HF.out
      have HKb : Hid (∀ j, (Value.slice ao cs.length cap).ownBlock = some j → j ≠ wr.heap.size) := Lib.hid (fun j hj e => by have := (World.ownsRow.lt HO.out j hj).2; omega)
      obtain ⟨ts, tf, ta, tb⟩ := t
      dsimp only at *
      have c2 : Hid ((wr.alloc (.cells #[.string ts, .string tf, .int .i64 ta, .int .i64 tb] 45)).cell? ⟨wr.heap.size, 2, none⟩ = some (.int .i64 ta)) := Lib.hid (by simp [World.cell?_alloc_new])
      have c3 : Hid ((wr.alloc (.cells #[.string ts, .string tf, .int .i64 ta, .int .i64 tb] 45)).cell? ⟨wr.heap.size, 3, none⟩ = some (.int .i64 tb)) := Lib.hid (by simp [World.cell?_alloc_new])
      have HBt := Lib.hid (HB.out.alloc HB.out.size (.cells #[.string ts, .string tf, .int .i64 ta, .int .i64 tb] 45))
      have HOt : Hid (Own (wr.alloc (.cells #[.string ts, .string tf, .int .i64 ta, .int .i64 tb] 45)) w.heap.size (.slice ao cs.length cap) cs) := Lib.hid (World.ownsRow.alloc HO.out _)
      have hst : Hid (wr.heap.size < (wr.alloc (.cells #[.string ts, .string tf, .int .i64 ta, .int .i64 tb] 45)).heap.size) := Lib.hid (by simp)
      have hwb : Hid (w.heap.size ≤ wr.heap.size) := Lib.hid HB.out.size
      clear hf
      go_wp2_with fail
      clear e0 e1 e2 e3
      generalize wr.alloc (.cells #[.string ts, .string tf, .int .i64 ta, .int .i64 tb] 45) = wt at *
      clear HO HB
      generalize wr.heap.size = B at *
      obtain ⟨g0, hg0⟩ : ∃ g, g = gk := ⟨gk, rfl⟩
      subst hg0
      go_loopg [5, 22] 2 (fun m s5 s22 wr => ∃ (i : Nat) (c2s : List UInt8) (ao : Option Addr) (cap : Nat), i + m = 2 ∧ s22 = .int .i64 (i : Int) ∧ s5 = .slice ao c2s.length cap ∧ Hid (c2s = cs ++ (if i = 0 then [] else if i = 1 then name2 ts else name2 ts ++ name2 tf)) ∧ Hid ((1 ≤ i → ts.size ≤ 4000) ∧ (2 ≤ i → tf.size ≤ 4000)) ∧ Hid (Own wr w.heap.size (.slice ao c2s.length cap) c2s) ∧ Hid (Below w.heap.size w wr) ∧ Hid (∀ j, (Value.slice ao c2s.length cap).ownBlock = some j → j ≠ B) ∧ Hid (B < wr.heap.size) ∧ Hid (wr.cell? ⟨B, 2, none⟩ = some (.int .i64 ta)) ∧ Hid (wr.cell? ⟨B, 3, none⟩ = some (.int .i64 tb)))
      case atStart => exact ⟨0, cs, ao, cap, by omega, rfl, rfl, Lib.hid (by simp), Lib.hid (by omega), HOt, HBt, HKb, hst, c2, c3⟩
      case round =>
        clear HOt HBt HKb hst c2 c3
        obtain ⟨i, c2s, bo, bc, hi, rfl, rfl, HC2, HF2, HO, HB, HKb, hst, c2, c3⟩ := hrel
        have hbs : Hid (w.heap.size ≤ wr.heap.size) := Lib.hid HB.out.size
        by_cases h1 : gk = 0
        · obtain rfl : i = 2 := by omega
          clear hi
          have HCA : Hid (c2s ++ tail16 ta tb = encTs (l.take (k + 1))) := Lib.hid (by rw [HNX.out, HC2.out, HC.out]; simp [encT1])
          have HFA : Hid ((l.take (k + 1)).all fitT = true) := Lib.hid (by rw [HFN.out, HF.out]; have := HF2.out; simp [fitT]; omega)
          have hsum : Hid (c2s.length + (tail16 ta tb).length ≤ 140737488355328) := Lib.hid (by rw [← List.length_append, HCA.out]; have := HLE.out; have := HL.out; omega)
          have hT16 : Hid (pack8 (bitsOf (uT ta) 64 ++ bitsOf (uT tb) 64) = tail16 ta tb) := Lib.hid (by rw [pack8_append _ _ (by simp)]; rfl)
          have hua := u64_wrap ta
          have hub := u64_wrap tb
          have hP1 := put_any wr.heap.size (uT ta) 64 (by omega) (by omega) (.slice none 0 0) [] _ (uT_lt _) (by simp) (newWr_wr wr)
          rw [List.nil_append] at hP1
          have hB1 : Hid (uT tb < 18446744073709551616) := Lib.hid (uT_lt _)
          have d2 : (wr.alloc newWr).cell? ⟨B, 2, none⟩ = some (.int .i64 ta) := (World.cell?_alloc_past _ _ _ hst.out).trans c2.out
          generalize tail16 ta tb = T16 at *
          generalize uT ta = U at *
          generalize uT tb = V at *
          go_wp2_with fail
          refine (newWriter_any _).mono ?_
          rintro e w2 ⟨rfl, rfl⟩
          go_wp2_with fail
          refine hP1.mono ?_
          rintro e w3 ⟨rfl, sv, hw, hs⟩
          have hb3 := ((Below.refl wr.heap.size wr).alloc (Nat.le_refl _) newWr).trans (WrStep.below hs (newWr_wr wr))
          have d3 : w3.cell? ⟨B, 3, none⟩ = some (.int .i64 tb) := (hb3.cell (p := ⟨B, 3, none⟩) hst.out).trans c3.out
          have HP2 := Lib.hid (put_any wr.heap.size V 64 (by omega) (by omega) sv (bitsOf U 64) w3 hB1.out (by simp) hw)
          have HW := Lib.hid hw
          have HB3 := Lib.hid hb3
          clear hw hs hb3 hP1 d2 hua
          go_wp2_with fail
          refine HP2.out.mono ?_
          rintro e w4 ⟨rfl, sv4, hw4, hs4⟩
          have HB4 := Lib.hid (HB3.out.trans (WrStep.below hs4 HW.out))
          have HY := Lib.hid (bytes_any wr.heap.size sv4 _ w4 (by simp) hw4)
          rw [hT16.out] at HY
          clear hw4 hs4 d3 HP2 hub
          go_wp2_with fail
          refine HY.out.mono ?_
          rintro e w5 ⟨ao7, cap7, rfl, ho7, hb7⟩
          have HO7 := Lib.hid ho7
          have hb5 := HB4.out.trans (hb7.mono HB4.out.size)
          have HO5 := Lib.hid ((Chg.ofBelowAny (S := fun _ => False) hb5).owns HO.out (fun _ _ h => h))
          have HB5 := Lib.hid (HB.out.trans (hb5.mono HB.out.size))
          have HBS := Lib.hid HB5.out.size
          clear ho7 hb7 hb5 HY
          go_wp2_with (at_builtin; refine wpList_append_bs _ rfl (.tmp 52) (.tmp 54) rfl w.heap.size (.slice bo c2s.length bc) c2s rfl HO5.out (.slice ao7 T16.length cap7) T16 rfl HO7.out.rd hsum.out HBS.out ?_; intro ao9 cap9 w6 hg9; have HG := Lib.hid hg9; clear hg9)
          go_roundg (g0 - 1)
          case measure => go_light; omega
          case rel =>
            go_light
            exact ⟨k + 1, c2s ++ T16, ao9, cap9, by omega, by go_num, by simp, HCA, HFA, Lib.hid HG.out.owns, Lib.hid (HB5.out.trans (HG.out.below HBS.out (fun j hj => (World.ownsRow.lt HO5.out j hj).1)))⟩
        · have hi2 : i < 2 := by omega
          obtain ⟨s, hsel⟩ : ∃ s, s = (if i = 0 then ts else tf) := ⟨_, rfl⟩
          have hidx : ∀ w, (Instr.index 68 (.agg #[.string ts, .string tf]) (.int .i64 (i : Int))).run Try.prog w = .ok (.string s) w := by
            intro w
            rcases (show i = 0 ∨ i = 1 by omega) with rfl | rfl
            · rw [hsel, if_pos rfl]; kernel_rfl
            · rw [hsel, if_neg (by omega)]; kernel_rfl
          have HSEL := Lib.hid hsel
          clear hsel
          by_cases hsz : s.size ≤ 4000
          · have HPN : Hid ((c2s ++ beN 2 s.size) ++ s.toList = cs ++ (if i + 1 = 0 then [] else if i + 1 = 1 then name2 ts else name2 ts ++ name2 tf)) := Lib.hid (by
              rw [HC2.out, HSEL.out]
              rcases (show i = 0 ∨ i = 1 by omega) with rfl | rfl
              · simp [name2]
              · simp [name2])
            have HF3 : Hid ((1 ≤ i + 1 → ts.size ≤ 4000) ∧ (2 ≤ i + 1 → tf.size ≤ 4000)) := Lib.hid (by
              have h5 := HSEL.out
              have h6 := HF2.out
              rcases (show i = 0 ∨ i = 1 by omega) with rfl | rfl
              · rw [if_pos rfl] at h5; subst h5; exact ⟨fun _ => hsz, fun h => by omega⟩
              · rw [if_neg (by omega)] at h5; subst h5; exact ⟨fun _ => h6.1 (by omega), fun _ => hsz⟩)
            have hcl : Hid (c2s.length ≤ 100008002) := Lib.hid (by
              have h7 := encTs_le l k
              have h8 := HL.out
              have h9 := HF2.out
              rw [HC2.out, List.length_append, HC.out]
              rcases (show i = 0 ∨ i = 1 by omega) with rfl | rfl
              · simp; omega
              · have := h9.1 (by omega); simp [name2_len]; omega)
            have hsum1 : Hid (c2s.length + (beN 2 s.size).length ≤ 140737488355328) := Lib.hid (by rw [beN_len]; have := hcl.out; omega)
            have hsum2 : Hid ((c2s ++ beN 2 s.size).length + s.size ≤ 140737488355328) := Lib.hid (by rw [List.length_append, beN_len]; have := hcl.out; omega)
            have hP1 := put_any wr.heap.size s.size 16 (by omega) (by omega) (.slice none 0 0) [] _ (by omega) (by simp) (newWr_wr wr)
            rw [List.nil_append] at hP1
            have hT2 : Hid (pack8 (bitsOf s.size 16) = beN 2 s.size) := Lib.hid rfl
            generalize beN 2 s.size = T2 at *
            obtain ⟨C3, hC3⟩ : ∃ C3, C3 = c2s ++ T2 := ⟨_, rfl⟩
            rw [← hC3] at HPN hsum2
            have HC3 := Lib.hid hC3
            clear hC3
            have hgt : ¬ (4000 : Int) < (s.size : Int) := by omega
            go_wp2_with fail
            refine (newWriter_any _).mono ?_
            rintro e w2 ⟨rfl, rfl⟩
            go_wp2_with fail
            refine hP1.mono ?_
            rintro e w3 ⟨rfl, sv, hw, hs⟩
            have HB4 := Lib.hid (((Below.refl wr.heap.size wr).alloc (Nat.le_refl _) newWr).trans (WrStep.below hs (newWr_wr wr)))
            have HY := Lib.hid (bytes_any wr.heap.size sv _ w3 (by simp) hw)
            rw [hT2.out] at HY
            clear hw hs hP1 hidx
            go_wp2_with fail
            refine HY.out.mono ?_
            rintro e w5 ⟨ao7, cap7, rfl, ho7, hb7⟩
            have HO7 := Lib.hid ho7
            have hb5 := HB4.out.trans (hb7.mono HB4.out.size)
            have HO5 := Lib.hid ((Chg.ofBelowAny (S := fun _ => False) hb5).owns HO.out (fun _ _ h => h))
            have HB5 := Lib.hid (HB.out.trans (hb5.mono HB.out.size))
            have HBS := Lib.hid HB5.out.size
            have d2 := Lib.hid ((hb5.cell (p := ⟨B, 2, none⟩) hst.out).trans c2.out)
            have d3 := Lib.hid ((hb5.cell (p := ⟨B, 3, none⟩) hst.out).trans c3.out)
            have dst := Lib.hid (Nat.lt_of_lt_of_le hst.out hb5.size)
            clear ho7 hb7 hb5 HY
            go_wp2_with (first
              | (at_builtin; refine wpList_append_bs _ rfl (.tmp 34) (.tmp 36) rfl w.heap.size (.slice bo c2s.length bc) c2s rfl HO5.out (.slice ao7 T2.length cap7) T2 rfl HO7.out.rd hsum1.out HBS.out ?_; intro ao8 cap8 w6 hg8; rw [← HC3.out] at hg8 ⊢; have HG8 := Lib.hid hg8; have HBS6 := Lib.hid (Nat.le_trans HBS.out hg8.grown.size); clear hg8)
              | (at_builtin; refine wpList_append_str _ rfl (.tmp 37) (.tmp 38) rfl w.heap.size (.slice ao8 C3.length cap8) C3 rfl HG8.out.owns s rfl hsum2.out HBS6.out ?_; intro ao9 cap9 w7 hg9; have HG := Lib.hid (HG8.out.trans hg9); clear hg9))
            go_roundg (gk - 1)
            case measure => go_light; omega
            case rel =>
              go_light
              have hnb : (Value.slice bo c2s.length bc).ownBlock ≠ some B := fun h => HKb.out B h rfl
              refine ⟨i + 1, C3 ++ s.toList, ao9, cap9, by omega, by go_num, by simp, HPN, HF3, Lib.hid HG.out.owns, Lib.hid (HB5.out.trans (HG.out.below HBS.out (fun j hj => (World.ownsRow.lt HO5.out j hj).1))), Lib.hid (fun j hj e => ?_), Lib.hid (Nat.lt_of_lt_of_le dst.out HG.out.grown.size), Lib.hid ((HG.out.chg.cell (p := ⟨B, 2, none⟩) dst.out hnb).trans d2.out), Lib.hid ((HG.out.chg.cell (p := ⟨B, 3, none⟩) dst.out hnb).trans d3.out)⟩
              subst e
              rcases HG.out.row j hj with h | h
              · exact hnb h
              · have := dst.out; omega
          · have HE : Hid (encT l = none) := Lib.hid (encT_none HM.out (by
              have h5 := HSEL.out
              unfold fitT
              rcases (show i = 0 ∨ i = 1 by omega) with rfl | rfl
              · rw [if_pos rfl] at h5; subst h5; simp [hsz]
              · rw [if_neg (by omega)] at h5; subst h5; simp [hsz]))
            have hgt : (4000 : Int) < (s.size : Int) := by omega
            go_wp2_with fail
            go_ret2
            exact ⟨HB.out, .inl ⟨HE.out, by go_light; rfl⟩⟩
end Go.Proofs.Ytmhmmnleijadnaa
