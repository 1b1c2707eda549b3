/- BitsBack's walk: what was written is read as it was. -/
import Derived.Test.YtnocfepkjhdliaaPiece
import Derived.Test.YtnocfepkjhdliaaReader
import Derived.Deep.RegionHeld3
namespace Go.Proofs.Ytnocfepkjhdliaa
open Go.RowKit Go.ChangeShapes Go.WideShapes Go.ChangeAt

/-- So many bits of a piece are written. -/
def Piece.nb (p : Piece) : Nat := 1 + (p.n % 64).toNat
theorem Piece.nb_le (p : Piece) : 1 ≤ p.nb ∧ p.nb ≤ 64 := by unfold Piece.nb; omega
def writ (l : List Piece) : List Bool := l.flatMap fun p => bitsOf p.v p.nb

theorem writ_len (l : List Piece) : (writ l).length ≤ 64 * l.length := by
  induction l with
  | nil => simp [writ]
  | cons p r ih =>
    have := p.nb_le
    simp only [writ, List.flatMap_cons, List.length_append, length_bitsOf, List.length_cons] at ih ⊢
    omega
theorem writ_take (l : List Piece) (k : Nat) (h : k < l.length) : writ (l.take (k + 1)) = writ (l.take k) ++ bitsOf l[k].v l[k].nb := by
  rw [List.take_succ_eq_append_getElem h]; simp only [writ, List.flatMap_append, List.flatMap_cons, List.flatMap_nil, List.append_nil]
theorem writ_split (l : List Piece) (k : Nat) (h : k < l.length) : writ l = writ (l.take k) ++ (bitsOf l[k].v l[k].nb ++ writ (l.drop (k + 1))) := by
  have e : l = l.take k ++ (l[k] :: l.drop (k + 1)) := by rw [List.getElem_cons_drop, List.take_append_drop]
  conv => lhs; rw [e]
  simp only [writ, List.flatMap_append, List.flatMap_cons]

theorem nb_num (p : Piece) : IntKind.i64.wrap (1 + IntKind.i64.wrap ((IntKind.u64.wrap p.n).tmod 64)) = ((p.nb : Nat) : Int) := by
  have e : (IntKind.u64.wrap p.n).tmod 64 = p.n % 64 := by
    rw [IntKind.wrap_u64, Int.tmod_eq_emod_of_nonneg (by omega)]; omega
  unfold Piece.nb
  rw [e, IntWalk.i64_in (p.n % 64) (by omega), IntWalk.i64_in _ (by omega)]
  omega

theorem nb_num2 (p : Piece) : wrap64 (1 + wrap64 ((IntKind.u64.wrap p.n).tmod 64)) = ((p.nb : Nat) : Int) := by
  rw [← nb_num p, IntWalk.i64_left, IntWalk.i64_left]

/-- What the reader finds at a piece's place. -/
theorem back_read (l : List Piece) (k : Nat) (h : k < l.length) : num (((bits8 (pack8 (writ l))).drop (writ (l.take k)).length).take l[k].nb) = l[k].v % 2 ^ l[k].nb := by
  rw [bits8_pack8]
  conv => lhs; rw [writ_split l k h]
  rw [List.append_assoc, List.drop_left, List.append_assoc, List.take_left' (by simp), num_bitsOf]

theorem back_fit (l : List Piece) (k : Nat) (h : k < l.length) : l[k].nb ≤ 8 * (pack8 (writ l)).length - (writ (l.take k)).length := by
  have h1 : (writ l).length = (writ (l.take k)).length + (l[k].nb + (writ (l.drop (k + 1))).length) := by
    conv => lhs; rw [writ_split l k h]
    simp
  rw [length_pack8]
  omega

theorem back_shift (v n : Nat) (_hv : v < 18446744073709551616) (h1 : 1 ≤ n) (h2 : n ≤ 64) :
    IntKind.u64.wrap ((v : Int) * 2 ^ min (IntKind.u64.wrap (IntKind.i64.wrap (64 - (n : Int)))).toNat 64) / 2 ^ min (IntKind.u64.wrap (IntKind.i64.wrap (64 - (n : Int)))).toNat 64 = ((v % 2 ^ n : Nat) : Int) := by
  have e : min (IntKind.u64.wrap (IntKind.i64.wrap (64 - (n : Int)))).toNat 64 = 64 - n := by
    rw [IntWalk.i64_in _ (by omega), IntWalk.u64_in _ (by omega)]; omega
  rw [e]
  have e2 : (v : Int) * 2 ^ (64 - n) = ((v * 2 ^ (64 - n) : Nat) : Int) := by simp
  have e3 : (18446744073709551616 : Nat) = 2 ^ n * 2 ^ (64 - n) := by rw [← Nat.pow_add, show n + (64 - n) = 64 by omega]
  have e4 : IntKind.u64.wrap ((v * 2 ^ (64 - n) : Nat) : Int) = ((v % 2 ^ n * 2 ^ (64 - n) : Nat) : Int) := by
    rw [IntKind.wrap_u64, show (18446744073709551616 : Int) = ((18446744073709551616 : Nat) : Int) from rfl, ← Int.natCast_emod, e3, Nat.mul_mod_mul_right]
  rw [e2, e4]
  have e5 : (2 : Int) ^ (64 - n) = ((2 ^ (64 - n) : Nat) : Int) := by simp
  rw [e5, ← Int.natCast_ediv, Nat.mul_div_cancel _ (Nat.two_pow_pos _)]

set_option maxHeartbeats 1000000 in
theorem bitsBack_run (l : List Piece) (v : Value) (w : World) (hl : l.length ≤ 8796093022208) (hok : ∀ p ∈ l, p.ok) (hr : RdV w 2 v l.length (l.flatMap Piece.cells)) :
    Calls Try.prog 7 #[v] w fun e w' => e = .returned (.bool true) ∧ Below w.heap.size w w' := by
  obtain ⟨ao0, cap0, rfl, hlc, hcm⟩ := RdV.shape hr
  unfold maxLen at hcm
  go_enter Try.func7, Try.ntmps7
  go_wp2_with fail
  refine (awake_any w).mono ?_
  rintro e w1 ⟨rfl, hb1⟩
  have hr1 := Lib.hid (hr.below hb1)
  have HB1 := Lib.hid hb1
  clear hb1 hr
  go_wp2_with fail
  refine (newWriter_any w1).mono ?_
  rintro e w2 ⟨rfl, rfl⟩
  go_wp2_with fail
  go_loopg [4, 13] l.length (fun m s4 s13 wr => ∃ k : Nat, k + m = l.length ∧ s13 = .int .i64 k ∧ ∃ sv, Wr wr w1.heap.size sv (writ (l.take k)) ∧ Below w1.heap.size w1 wr)
  case atStart => exact ⟨0, by omega, rfl, _, newWr_wr w1, (Below.refl _ _).alloc (Nat.le_refl _) _⟩
  case round =>
    obtain ⟨k, hk, rfl, sv, hwr, hbel⟩ := hrel
    by_cases h0 : gk = 0
    · obtain rfl : k = l.length := by omega
      rw [List.take_length] at hwr
      have hwl := writ_len l
      have HB := Lib.hid hbel
      clear hbel
      go_wp2_with fail
      refine (bytes_any w1.heap.size sv (writ l) _ (by omega) hwr).mono ?_
      rintro e w4 ⟨ao4, cap4, rfl, hown4, hb4⟩
      have hbel4 := Lib.hid (HB.out.trans (hb4.mono (by have := HB.out.size; omega)))
      clear hwr HB hb4
      go_wp2_with fail
      refine (newReader_any _ (pack8 (writ l)) _ (by rw [length_pack8]; omega) hown4.rd).mono ?_
      rintro e w5 ⟨blk, rfl, hrd, hb5⟩
      have hlo : w1.heap.size ≤ w4.heap.size := hbel4.out.size
      have H1 := Lib.hid (hbel4.out.trans (hb5.mono hlo))
      clear hown4 hb5 hbel4
      go_wp2_with fail
      go_loopg [6, 7, 38] l.length (fun m s6 s7 s38 wr => ∃ k : Nat, k + m = l.length ∧ s38 = .int .i64 k ∧ Rdr wr blk w4.heap.size w5.heap.size (pack8 (writ l)) (writ (l.take k)).length false ∧ Below w1.heap.size w1 wr)
      case atStart => exact ⟨0, by omega, rfl, by simpa [writ] using hrd, H1.out⟩
      case round =>
        obtain ⟨k, hk, rfl, hrd1, hbel⟩ := hrel
        clear hrd h0
        by_cases h0 : gk = 0
        · obtain rfl : k = l.length := by omega
          rw [List.take_length] at hrd1
          have hlft := left_any blk _ _ _ _ _ _ hrd1
          simp only [Bool.false_eq_true, if_false] at hlft
          have hlt8 : ((8 * (pack8 (writ l)).length - (writ l).length : Nat) : Int) < 8 := by rw [length_pack8]; omega
          have hd : decide (8 * (pack8 (writ l)).length - (writ l).length < 8) = true := by simp; omega
          have H2 := Lib.hid hbel
          clear hbel
          go_wp2_with (first | (go_at_call 28; refine (bad_any _ _ _ _ _ _ _ hrd1).mono ?_; rintro e w' ⟨rfl, rfl⟩) | (go_at_call 29; refine hlft.mono ?_; rintro e w' ⟨rfl, nq, rfl⟩))
          go_ret
          exact ⟨rfl, HB1.out.trans ((H2.out.trans (below_drewN nq |>.mono H2.out.size)).mono HB1.out.size)⟩
        · have hlt : k < l.length := by omega
          obtain ⟨b, off, cap', he, hcv, hcn⟩ := piece_at (hr1.out.below hbel) k hlt
          have hbs : b < w1.heap.size := by
            obtain ⟨b', off', cap'', he', hcv', _⟩ := piece_at hr1.out k hlt
            rw [he] at he'
            simp only [Value.slice.injEq, Option.some.injEq, Addr.mk.injEq] at he'
            have := World.block_lt_of_cell? w1 _ hcv'
            simp at this
            omega
          simp only [Value.slice.injEq, true_and] at he
          obtain ⟨rfl, rfl⟩ := he
          obtain ⟨okv, okn1, okn2⟩ := hok l[k] (List.getElem_mem hlt)
          have hnb := l[k].nb_le
          have hblk : w4.heap.size ≤ blk := by obtain ⟨sv', _, _, _, _, _, _, _, h1, _⟩ := hrd1; exact h1
          have hread := back_read l k hlt
          have hfit := back_fit l k hlt
          have hwt := writ_take l k hlt
          have HX := Lib.hid hread
          have HF := Lib.hid hfit
          have HT := Lib.hid hwt
          clear hread hfit hwt
          go_upto_region 14 with fail
          rw [nb_num2 l[k]]
          go_cut [66] (fun s66 wx => s66 = .bool false ∧ Rdr wx blk w4.heap.size w5.heap.size (pack8 (writ l)) (writ (l.take (k + 1))).length false ∧ Below w1.heap.size w1 wx)
          case first =>
            have hrd1d : Rdr wr.drew blk w4.heap.size w5.heap.size (pack8 (writ l)) (writ (l.take k)).length false := hrd1
            go_region_held3 (fun w' => w'.cell? ⟨b, off + k * 2, none⟩ = some (.int .u64 (l[k].v : Int)))
              (first
                | go_keep
                | exact (HC.cell (p := ⟨b, off + k * 2, none⟩) (by have := hbel.size; simp; omega) (by simp; omega)).trans hcv)
              (first | (go_at_call 27; refine (getSome_any _ _ _ _ _ _ hnb.1 hnb.2 HF.out _ hrd1d).mono ?_; rintro e w6 ⟨rfl, hrd6, HC⟩))
            all_goals (go_wp2_with fail; go_meet; go_light; rw [HX.out, back_shift l[k].v l[k].nb okv hnb.1 hnb.2, HT.out, List.length_append, length_bitsOf]; exact ⟨by simp, hrd6, hbel.drew.trans (HC.below (by have := hbel.size; simp; omega) (fun k hk => by omega))⟩)
          case rest =>
            obtain ⟨rfl, hrd6, hbel6⟩ := hcut
            have H2 := Lib.hid hrd6
            have H3 := Lib.hid hbel6
            clear hrd6 hbel6
            go_wp2
            go_roundg (gk - 1)
            case measure => go_light; omega
            case rel =>
              go_light
              exact ⟨k + 1, by omega, by go_num, H2.out, H3.out⟩
    · have hlt : k < l.length := by omega
      obtain ⟨b, off, cap', he, hcv, hcn⟩ := piece_at (hr1.out.below hbel) k hlt
      simp only [Value.slice.injEq, true_and] at he
      obtain ⟨rfl, rfl⟩ := he
      obtain ⟨okv, okn1, okn2⟩ := hok l[k] (List.getElem_mem hlt)
      go_upto_region 7 with fail
      go_still_tail 15, (by kernel_rfl)
      change wpList _ _ _ _ _ wr.drew
      have hwd : Wr wr.drew w1.heap.size sv (writ (l.take k)) := hwr
      have hbd : Below w1.heap.size w1 wr.drew := hbel.drew
      generalize wr.drew = wd at hwd hbd ⊢
      have hnb := l[k].nb_le
      have hwl := writ_len (l.take k)
      have hwt := writ_take l k hlt
      have HT := Lib.hid hwt
      clear hwt hwr hbel hcv hcn
      go_wp2_with fail
      rw [nb_num2 l[k]]
      refine (put_any w1.heap.size l[k].v l[k].nb hnb.1 hnb.2 sv _ wd okv (by simp at hwl; omega) hwd).mono ?_
      rintro e w4 ⟨rfl, sv4, hw4, hs4⟩
      have hb4 := hbd.trans (hs4.below hwd)
      rw [← HT.out] at hw4
      have HW := Lib.hid hw4
      have HB := Lib.hid hb4
      clear hw4 hb4 hs4 hwd hbd
      go_wp2
      go_roundg (gk - 1)
      case measure => go_light; omega
      case rel =>
        go_light
        exact ⟨k + 1, by omega, by go_num, sv4, HW.out, HB.out⟩

theorem bitsBack_walk {H : Type} (enc : TypeId × Value → H) (W : World) (base : Nat) (v0 : Value) (d0 : DataW H) (p0 : List MemPlace)
    (o0 : Value.okWide Try.prog W .any base 27 v0)
    (t0 : DataW.Trod enc Try.prog W 0 (fun _ => true) true 27 v0 d0 p0)
    (hsz : (DataW.weightsEach Try.prog [27] [d0]).all (· ≤ reachBytes) = true) :
    Calls Try.prog 7 #[v0] W fun e W' => e = .returned (.bool true) ∧ Below W.heap.size W W' := by
  obtain ⟨l, hr, hok, _, hd⟩ := open_pieces o0 t0
  refine bitsBack_run l v0 W ?_ hok hr
  rcases hd with ⟨_, _, rfl⟩ | ⟨els, sp, rfl, hl⟩
  · simp
  · have hb : Try.prog.bytesOf 34 = 16 := by kernel_rfl
    have := List.all_eq_true.1 hsz ((els.length + sp.length) * Try.prog.bytesOf 34) (by simp [DataW.weightsEach, DataW.weights, Try.underlying27])
    rw [hb] at this
    have h2 : (els.length + sp.length) * 16 ≤ reachBytes := by simpa using this
    unfold reachBytes at h2
    omega

end Go.Proofs.Ytnocfepkjhdliaa
