/- BitsReads' walk: any bytes are read, bits for bits, up to the first reading that finds too few; then nothing more. -/
import Derived.Test.YtnocfepkjhdliaaOpen
import Derived.Test.YtnocfepkjhdliaaAwake03
import Derived.Test.YtnocfepkjhdliaaRefBits
import Derived.Test.YtnocfepkjhdliaaReader
namespace Go.Proofs.Ytnocfepkjhdliaa
open Go.RowKit Go.ChangeShapes Go.WideShapes Go.ChangeAt
set_option linter.unusedVariables false

/-- Integers of the kind int that came in. -/
def iV (n : Int) : Value := .int .i64 n
theorem open_ints64 {H : Type} {enc : TypeId × Value → H} {W : World} {v : Value} {b0 : Nat} {d : DataW H} {ps : List MemPlace} (o : Value.okWide Try.prog W .any b0 43 v) (h : DataW.Trod enc Try.prog W 0 (fun _ => true) true 43 v d ps) :
    ∃ l : List Int, RdV W 1 v l.length (l.map iV) ∧ (∀ n ∈ l, -9223372036854775808 ≤ n ∧ n ≤ 9223372036854775807) ∧ l.length + 1 ≤ Rows.uptoBulk d := by
  obtain ⟨xs, h1, h2, h3, h4⟩ := open_flat (fun x : Int => [iV x]) (fun n => -9223372036854775808 ≤ n ∧ n ≤ 9223372036854775807) (fun _ => 1) Try.underlying43 (by kernel_rfl : Try.prog.cellsOf 3 = 1) (fun _ => rfl) (fun n cs y hy => by
    obtain ⟨m, rfl, rfl, hw⟩ := DataW.trod_int Try.underlying3 hy
    exact ⟨m, rfl, wf_i64' hw, by simp [Rows.uptoBulk]⟩) o h
  refine ⟨xs, ?_, h2, ?_⟩
  · have : ∀ l : List Int, l.flatMap (fun x : Int => [iV x]) = l.map iV := fun l => by induction l <;> simp_all
    rw [← this]
    exact h1
  · have : ∀ l : List Int, (l.map fun _ => 1).sum = l.length := fun l => by induction l <;> simp_all <;> omega
    have := this xs
    omega

theorem intAt {w : World} {v : Value} {l : List Int} (h : RdV w 1 v l.length (l.map iV)) (i : Nat) (hi : i < l.length) :
    ∃ b off cap, v = .slice (some ⟨b, off, none⟩) l.length cap ∧ w.cell? ⟨b, off + i, none⟩ = some (.int .i64 l[i]) := by
  obtain ⟨b, off, cap, rfl, _, _, _, hc⟩ := RdV.some h (by omega) (by omega)
  exact ⟨b, off, cap, rfl, hc i _ (by simp [hi, iV])⟩

/-- What a reading gives: the number, the place behind, whether there were too few. -/
def getN (bs : List UInt8) (pos : Nat) (bad : Bool) (n : Int) : Nat × Nat × Bool :=
  if bad = true ∨ n < 1 ∨ 64 < n then (0, pos, bad)
  else if ((8 * bs.length - pos : Nat) : Int) < n then (0, pos, true)
  else (num (((bits8 bs).drop pos).take n.toNat), pos + n.toNat, false)

theorem get_any (blk lo hi pos : Nat) (bs : List UInt8) (bad : Bool) (n : Int) (w : World) (hr : Rdr w blk lo hi bs pos bad) :
    Calls Try.prog 27 #[.pointer (some ⟨blk, 0, none⟩), .int .i64 n] w fun e w' => e = .returned (.int .u64 ((getN bs pos bad n).1 : Nat)) ∧ Rdr w' blk lo hi bs (getN bs pos bad n).2.1 (getN bs pos bad n).2.2 ∧ Chg (fun k => k = blk) w w' := by
  unfold getN
  by_cases h1 : bad = true ∨ n < 1 ∨ 64 < n
  · rw [if_pos h1]
    cases bad with
    | true =>
      refine (getBad_any blk lo hi pos bs n w hr).mono ?_
      rintro e w' ⟨rfl, rfl⟩
      exact ⟨rfl, hr, Chg.refl _ _⟩
    | false =>
      refine (getOut_any blk lo hi pos bs n (by simpa using h1) w hr).mono ?_
      rintro e w' ⟨rfl, rfl⟩
      exact ⟨rfl, hr, Chg.refl _ _⟩
  · rw [if_neg h1]
    have hb : bad = false := by cases bad <;> simp_all
    subst hb
    by_cases h2 : ((8 * bs.length - pos : Nat) : Int) < n
    · rw [if_pos h2]
      exact getFew_any blk lo hi pos bs n (by omega) (by omega) h2 w hr
    · rw [if_neg h2]
      obtain ⟨N, hN⟩ := Int.eq_ofNat_of_zero_le (show 0 ≤ n by omega)
      subst hN
      exact getSome_any blk lo hi pos bs N (by omega) (by omega) (by omega) w hr

set_option maxHeartbeats 1000000 in
theorem bitsReads_run (bs : List UInt8) (l : List Int) (v0 v1 : Value) (w : World) (hbs : bs.length ≤ 1048576) (hl : l.length ≤ 1048576) (hok : ∀ n ∈ l, -9223372036854775808 ≤ n ∧ n ≤ 9223372036854775807) (hr0 : Rd w v0 bs) (hr : RdV w 1 v1 l.length (l.map iV)) :
    Calls Try.prog 6 #[v0, v1] w fun e w' => e = .returned (.bool true) ∧ Below w.heap.size w w' := by
  obtain ⟨ao1, cap1, rfl, hlc, hcm⟩ := RdV.shape hr
  unfold maxLen at hcm
  go_enter Try.func6, Try.ntmps6
  go_wp2_with fail
  refine (awake_any w).mono ?_
  rintro e w1 ⟨rfl, hb1⟩
  have hr1 := Lib.hid (hr.below hb1)
  have hr01 : Rd w1 v0 bs := RdV.below hr0 hb1
  have HB1 := Lib.hid hb1
  clear hb1 hr hr0
  go_wp2_with fail
  refine (newReader_any v0 bs w1 (by omega) hr01).mono ?_
  rintro e w2 ⟨blk, rfl, hrd, hb2⟩
  have hr02 : Rd w2 v0 bs := RdV.below hr01 hb2
  have HB2 := Lib.hid hb2
  clear hb2 hr01
  go_wp2_with fail
  refine (rof_any v0 bs w2 (by omega) hr02).mono ?_
  rintro e w3 ⟨ao3, cap3, rfl, hown3, hb3⟩
  have hrd3 := hrd.below hb3
  have HB3 := Lib.hid (HB2.out.trans (hb3.mono HB2.out.size))
  have hb2s := HB2.out.size
  clear hb3 hrd hr02 HB2
  go_wp2_with fail
  go_loopg [6, 7, 8, 9, 10, 11, 20] l.length (fun m s6 s7 s8 s9 s10 s11 s20 wr => ∃ k : Nat, k + m = l.length ∧ s20 = .int .i64 k ∧ ∃ pos bad ao cap, s7 = .bool bad ∧ s6 = .slice ao (bits01 ((bits8 bs).drop pos)).length cap ∧
    Rd wr (.slice ao (bits01 ((bits8 bs).drop pos)).length cap) (bits01 ((bits8 bs).drop pos)) ∧ (∀ r, (Value.slice ao (bits01 ((bits8 bs).drop pos)).length cap).ownBlock = some r → r ≠ blk) ∧
    Rdr wr blk w1.heap.size w2.heap.size bs pos bad ∧ Below w1.heap.size w1 wr)
  case atStart => 
    refine ⟨0, by omega, rfl, 0, false, ao3, cap3, rfl, rfl, by simpa using hown3.rd, fun r hr => ?_, hrd3, HB3.out⟩
    have h1 := (hown3.lt r (by simpa using hr)).1
    obtain ⟨sv, _, _, _, _, _, _, _, _, h2, _⟩ := hrd3
    omega
  case round =>
    obtain ⟨k, hk, rfl, pos, bad, ao, cap, rfl, rfl, hrr, hne, hrd, hbel⟩ := hrel
    clear hown3 hrd3
    by_cases h0 : gk = 0
    · obtain rfl : k = l.length := by omega
      have H1 := Lib.hid hbel
      clear hbel hrr hne hrd
      go_wp2
      go_ret
      exact ⟨rfl, HB1.out.trans (H1.out.mono HB1.out.size)⟩
    · have hlt : k < l.length := by omega
      obtain ⟨b, off, cap', he, hcn⟩ := intAt (hr1.out.below hbel) k hlt
      simp only [Value.slice.injEq, true_and] at he
      obtain ⟨rfl, rfl⟩ := he
      obtain ⟨okn1, okn2⟩ := hok l[k] (List.getElem_mem hlt)
      obtain ⟨n, hn⟩ : ∃ n, n = l[k] := ⟨_, rfl⟩
      rw [← hn] at hcn okn1 okn2
      have hsz1 := hbel.size
      have hblk : w1.heap.size ≤ blk := by obtain ⟨sv, _, _, _, _, _, _, _, h2, _⟩ := hrd; exact h2
      have HK := Lib.hid hk
      have HN := Lib.hid hn
      clear hk hn
      cases bad with
      | true =>
        have e1 : getN bs pos true n = (0, pos, true) := by simp [getN]
        have hget := get_any blk _ _ pos bs true n wr hrd
        rw [e1] at hget
        have HG := Lib.hid hget
        have HR := Lib.hid hrr
        have HE := Lib.hid hne
        clear e1 hget hrr hne
        go_wp2_with fail
        refine HG.out.mono ?_
        rintro e w4 ⟨rfl, hrd4, hch⟩
        have H1 := Lib.hid (hbel.trans (hch.below hsz1 (fun k hk => by omega)))
        have H2 := Lib.hid (RdV.chg HR.out hch (fun b hb => HE.out b hb))
        clear hch hbel hrd HG
        go_wp2_with fail
        refine (bad_any blk _ _ pos bs true w4 hrd4).mono ?_
        rintro e w5 ⟨rfl, rfl⟩
        go_wp2_with fail
        refine (left_any blk _ _ pos bs true w4 hrd4).mono ?_
        rintro e w5 ⟨rfl, nq, rfl⟩
        have H3 := Lib.hid hrd4
        clear hrd4
        go_wp2
        go_roundg (gk - 1)
        case measure => go_light; omega
        case rel =>
          go_light
          exact ⟨k + 1, by have := HK.out; omega, by go_num, pos, true, ao, cap, rfl, rfl, H2.out.below (below_drewN nq), HE.out, H3.out.below (below_drewN nq), H1.out.trans ((below_drewN nq).mono H1.out.size)⟩
      | false =>
        have hll : (8 * bs.length - pos != (bits01 ((bits8 bs).drop pos)).length) = false := by rw [bits01_len]; simp
        by_cases hlo : n < 1
        · have e1 : getN bs pos false n = (0, pos, false) := by simp [getN, hlo]
          have hget := get_any blk _ _ pos bs false n wr hrd
          rw [e1] at hget
          have HG := Lib.hid hget
          have HR := Lib.hid hrr
          have HE := Lib.hid hne
          clear e1 hget hrr hne
          go_wp2_with fail
          refine HG.out.mono ?_
          rintro e w4 ⟨rfl, hrd4, hch⟩
          have H1 := Lib.hid (hbel.trans (hch.below hsz1 (fun k hk => by omega)))
          have H2 := Lib.hid (RdV.chg HR.out hch (fun b hb => HE.out b hb))
          clear hch hbel hrd HG
          go_wp2_with fail
          refine (bad_any blk _ _ (pos) bs false w4 hrd4).mono ?_
          rintro e w5 ⟨rfl, rfl⟩
          go_wp2_with fail
          refine (left_any blk _ _ (pos) bs false w4 hrd4).mono ?_
          rintro e w5 ⟨rfl, nq, rfl⟩
          have H3 := Lib.hid hrd4
          clear hrd4
          go_wp2
          go_roundg (gk - 1)
          case measure => go_light; omega
          case rel =>
            go_light
            exact ⟨k + 1, by have := HK.out; omega, by go_num, pos, false, ao, cap, rfl, rfl, H2.out.below (below_drewN nq), HE.out, H3.out.below (below_drewN nq), H1.out.trans ((below_drewN nq).mono H1.out.size)⟩
        · by_cases hhi : 64 < n
          · have e1 : getN bs pos false n = (0, pos, false) := by simp [getN, hhi]
            have hget := get_any blk _ _ pos bs false n wr hrd
            rw [e1] at hget
            have HG := Lib.hid hget
            have HR := Lib.hid hrr
            have HE := Lib.hid hne
            clear e1 hget hrr hne
            go_wp2_with fail
            refine HG.out.mono ?_
            rintro e w4 ⟨rfl, hrd4, hch⟩
            have H1 := Lib.hid (hbel.trans (hch.below hsz1 (fun k hk => by omega)))
            have H2 := Lib.hid (RdV.chg HR.out hch (fun b hb => HE.out b hb))
            clear hch hbel hrd HG
            go_wp2_with fail
            refine (bad_any blk _ _ (pos) bs false w4 hrd4).mono ?_
            rintro e w5 ⟨rfl, rfl⟩
            go_wp2_with fail
            refine (left_any blk _ _ (pos) bs false w4 hrd4).mono ?_
            rintro e w5 ⟨rfl, nq, rfl⟩
            have H3 := Lib.hid hrd4
            clear hrd4
            go_wp2
            go_roundg (gk - 1)
            case measure => go_light; omega
            case rel =>
              go_light
              exact ⟨k + 1, by have := HK.out; omega, by go_num, pos, false, ao, cap, rfl, rfl, H2.out.below (below_drewN nq), HE.out, H3.out.below (below_drewN nq), H1.out.trans ((below_drewN nq).mono H1.out.size)⟩
          · by_cases hfew : ((8 * bs.length - pos : Nat) : Int) < n
            · have e1 : getN bs pos false n = (0, pos, true) := by
                unfold getN; rw [if_neg (by simp; omega), if_pos hfew]
              have hfew2 : (((bits01 ((bits8 bs).drop pos)).length : Nat) : Int) < n := by rw [bits01_len]; simpa using hfew
              have hget := get_any blk _ _ pos bs false n wr hrd
              rw [e1] at hget
              have HG := Lib.hid hget
              have HR := Lib.hid hrr
              have HE := Lib.hid hne
              clear e1 hget hrr hne hll
              go_wp2_with fail
              refine HG.out.mono ?_
              rintro e w4 ⟨rfl, hrd4, hch⟩
              have H1 := Lib.hid (hbel.trans (hch.below hsz1 (fun k hk => by omega)))
              have H2 := Lib.hid (RdV.chg HR.out hch (fun b hb => HE.out b hb))
              clear hch hbel hrd HG
              go_wp2_with fail
              refine (bad_any blk _ _ (pos) bs true w4 hrd4).mono ?_
              rintro e w5 ⟨rfl, rfl⟩
              go_wp2_with fail
              refine (left_any blk _ _ (pos) bs true w4 hrd4).mono ?_
              rintro e w5 ⟨rfl, nq, rfl⟩
              have H3 := Lib.hid hrd4
              clear hrd4
              go_wp2
              go_roundg (gk - 1)
              case measure => go_light; omega
              case rel =>
                go_light
                exact ⟨k + 1, by have := HK.out; omega, by go_num, pos, true, ao, cap, rfl, rfl, H2.out.below (below_drewN nq), HE.out, H3.out.below (below_drewN nq), H1.out.trans ((below_drewN nq).mono H1.out.size)⟩
            · obtain ⟨N, rfl⟩ := Int.eq_ofNat_of_zero_le (show 0 ≤ n by omega)
              have e1 : getN bs pos false (N : Int) = (num (((bits8 bs).drop pos).take N), pos + N, false) := by
                unfold getN; rw [if_neg (by simp; omega), if_neg hfew]; rfl
              have hfew2 : ¬ (((bits01 ((bits8 bs).drop pos)).length : Nat) : Int) < (N : Int) := by rw [bits01_len]; simpa using hfew
              have hget := get_any blk _ _ pos bs false (N : Int) wr hrd
              rw [e1] at hget
              have hNl : N ≤ ((bits8 bs).drop pos).length := by simp; omega
              have hll2 : (8 * bs.length - (pos + N) != (bits01 ((bits8 bs).drop (pos + N))).length) = false := by rw [bits01_len]; simp
              have hrg := rget_any _ ((bits8 bs).drop pos) N hNl (by omega) wr hrr
              have HG := Lib.hid hget
              have HRG := Lib.hid hrg
              have HNE := Lib.hid hne
              clear e1 hget hne hll hrg
              go_wp2_with fail
              refine HRG.out.mono ?_
              rintro e w9 ⟨rfl, rfl⟩
              have hNl' : N ≤ (bits01 ((bits8 bs).drop pos)).length := by rw [bits01_len]; exact hNl
              have hLN := Lib.hid (show (bits01 ((bits8 bs).drop pos)).length - N = (bits01 ((bits8 bs).drop (pos + N))).length by rw [bits01_len, bits01_len]; simp; omega)
              have hcells := Lib.hid (show ((((bits01 ((bits8 bs).drop pos)).map bV).drop N).take (bits01 ((bits8 bs).drop (pos + N))).length) = (bits01 ((bits8 bs).drop (pos + N))).map bV by
                rw [List.take_of_length_le (by simp [bits01_len]; omega), ← List.map_drop, bits01, ← List.map_drop, List.drop_drop]; rfl)
              go_wp2_with (with_reducible refine wpList_slice_rd _ rfl (.tmp 44) (some (.tmp 45)) none 31 rfl 5 1 (.int .u8 0) 1 Try.underlying31 infoU8 _ _ _ _ rfl hrr.v N _ ?hb hNl' (Nat.le_refl _) ?hk)
              case hb => exact bounds_lo _ _ _ _ hNl'
              case hk =>
                intro ao5 cap5 hr5 hb5
                rw [hLN.out, hcells.out] at hr5
                rw [hLN.out] at hb5 ⊢
                have HR := Lib.hid (show Rd wr (.slice ao5 (bits01 ((bits8 bs).drop (pos + N))).length cap5) (bits01 ((bits8 bs).drop (pos + N))) from hr5)
                have HE := Lib.hid (fun (r : Nat) (hr : (Value.slice ao5 (bits01 ((bits8 bs).drop (pos + N))).length cap5).ownBlock = some r) => HNE.out r (hb5 r hr))
                clear hr5 hb5 hrr hNl' 
                go_wp2_with fail
                refine HG.out.mono ?_
                rintro e w4 ⟨rfl, hrd4, hch⟩
                have H1 := Lib.hid (hbel.trans (hch.below hsz1 (fun k hk => by omega)))
                have H2 := Lib.hid (RdV.chg HR.out hch (fun b hb => HE.out b hb))
                clear hch hbel hrd HG
                go_wp2_with fail
                refine (bad_any blk _ _ (pos + N) bs false w4 hrd4).mono ?_
                rintro e w5 ⟨rfl, rfl⟩
                go_wp2_with fail
                refine (left_any blk _ _ (pos + N) bs false w4 hrd4).mono ?_
                rintro e w5 ⟨rfl, nq, rfl⟩
                have H3 := Lib.hid hrd4
                clear hrd4
                go_wp2
                go_roundg (gk - 1)
                case measure => go_light; omega
                case rel =>
                  go_light
                  exact ⟨k + 1, by have := HK.out; omega, by go_num, pos + N, false, ao5, cap5, rfl, rfl, H2.out.below (below_drewN nq), HE.out, H3.out.below (below_drewN nq), H1.out.trans ((below_drewN nq).mono H1.out.size)⟩
theorem bitsReads_walk {H : Type} (enc : TypeId × Value → H) (W : World) (base : Nat) (v0 v1 : Value) (d0 d1 : DataW H) (p0 p1 : List MemPlace)
    (o0 : Value.okWide Try.prog W .any base 30 v0) (o1 : Value.okWide Try.prog W .any base 43 v1)
    (t0 : DataW.Trod enc Try.prog W 0 (fun _ => true) true 30 v0 d0 p0) (t1 : DataW.Trod enc Try.prog W 0 (fun _ => true) true 43 v1 d1 p1)
    (hsz : (DataW.weightsEach Try.prog [30, 43] [d0, d1]).all (· ≤ reachBytes) = true) (hk : Rows.uptoSmall H [d0, d1] = true) :
    Calls Try.prog 6 #[v0, v1] W fun e W' => e = .returned (.bool true) ∧ Below W.heap.size W W' := by
  obtain ⟨bs, hr0, hb0, _⟩ := open_bytes o0 t0
  obtain ⟨l, hr1, hok, hb1⟩ := open_ints64 o1 t1
  have h := bulk_small hk
  simp only [Rows.uptoBulkAll] at h
  exact bitsReads_run bs l v0 v1 W (by omega) (by omega) hok hr0 hr1

end Go.Proofs.Ytnocfepkjhdliaa
