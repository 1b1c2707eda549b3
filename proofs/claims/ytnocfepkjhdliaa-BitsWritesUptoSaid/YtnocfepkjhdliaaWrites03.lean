/- BitsWrites' walk: any bits are written, one behind the other, as the document says. -/
import Derived.Test.YtnocfepkjhdliaaPiece
import Derived.Test.YtnocfepkjhdliaaRefBits
import Derived.Deep.RegionHeld3
import Derived.Deep.RegionWith
namespace Go.Proofs.Ytnocfepkjhdliaa
open Go.RowKit Go.ChangeShapes Go.WideShapes Go.ChangeAt
set_option linter.unusedVariables false

/-- So many bits of a piece are written. -/
def Piece.nw (p : Piece) : Nat := (min (max p.n 0) 64).toNat
theorem Piece.nw_le (p : Piece) : p.nw ≤ 64 := by unfold Piece.nw; omega
def wrtn (l : List Piece) : List Bool := l.flatMap fun p => bitsOf p.v p.nw

theorem wrtn_len (l : List Piece) : (wrtn l).length ≤ 64 * l.length := by
  induction l with
  | nil => simp [wrtn]
  | cons p r ih =>
    have := p.nw_le
    simp only [wrtn, List.flatMap_cons, List.length_append, length_bitsOf, List.length_cons] at ih ⊢
    omega
theorem wrtn_take (l : List Piece) (k : Nat) (h : k < l.length) : wrtn (l.take (k + 1)) = wrtn (l.take k) ++ bitsOf l[k].v l[k].nw := by
  rw [List.take_succ_eq_append_getElem h]; simp only [wrtn, List.flatMap_append, List.flatMap_cons, List.flatMap_nil, List.append_nil]

/-- Put's contract at a piece, whatever its count. -/
theorem put_piece (p : Piece) (hp : p.ok) (blk : Nat) (sv : Value) (bits : List Bool) (w : World) (hb : bits.length ≤ 1125899906842000) (hw : Wr w blk sv bits) :
    Calls Try.prog 15 #[.pointer (some ⟨blk, 0, none⟩), .int .u64 (p.v : Int), .int .i64 p.n] w fun e w' => e = .returned (.tuple #[]) ∧
      ∃ sv', Wr w' blk sv' (bits ++ bitsOf p.v p.nw) ∧ WrStep w blk sv w' sv' := by
  obtain ⟨hv, hn1, hn2⟩ := hp
  by_cases h : p.n ≤ 0
  · have e : p.nw = 0 := by unfold Piece.nw; omega
    refine (putNone_any blk p.v p.n h w).mono ?_
    rintro e' w' ⟨rfl, rfl⟩
    rw [e]
    exact ⟨rfl, sv, by simpa [bitsOf] using hw, WrStep.refl _ _ _⟩
  · exact putMin_any blk p.v p.n ⟨hn1, hn2⟩ p.nw (by unfold Piece.nw; omega) (by unfold Piece.nw; omega) sv bits w hv hb hw

/-- What the writer's step leaves of another slice, and of what was there. -/
theorem writes_step {w1 wd w4 : World} {B : Nat} {sv sv4 v : Value} {bits : List Bool} {bs : List UInt8} (hod : Own wd (B + 1) v bs) (hdis : ∀ r, v.ownBlock = some r → sv.ownBlock ≠ some r) (hbd : Below B w1 wd) (hwd : Wr wd B sv bits) (hs : WrStep wd B sv w4 sv4) :
    Own w4 (B + 1) v bs ∧ (∀ r, v.ownBlock = some r → sv4.ownBlock ≠ some r) ∧ Below B w1 w4 := by
  refine ⟨hs.1.owns hod fun k hk hS => ?_, fun r hr h4 => ?_, hbd.trans (hs.below hwd)⟩
  · rcases hS with rfl | hS
    · have := (hod.lt _ hk).1; omega
    · exact hdis k hk hS
  · rcases hs.2 r h4 with h | h
    · exact hdis r hr h
    · have := (hod.lt r hr).2; omega

/-- What the reference's step leaves. -/
theorem writes_put {w1 w5 w6 : World} {B : Nat} {sv v v' : Value} {bits : List Bool} {bs : List UInt8} (hw : Wr w5 B sv bits) (hlow : ∀ r, v.ownBlock = some r → B + 1 ≤ r) (hdis : ∀ r, v.ownBlock = some r → sv.ownBlock ≠ some r) (hb : Below B w1 w5) (hg : Grew w5 w6 (B + 1) 5 1 v v' bs.length (bs.map bV)) :
    Own w6 (B + 1) v' bs ∧ (∀ r, v'.ownBlock = some r → sv.ownBlock ≠ some r) ∧ Below B w1 w6 := by
  have hlt := hw.lt
  refine ⟨hg.owns, fun r hr h => ?_, hb.trans (hg.below (by omega) fun k hk => by have := hlow k hk; omega)⟩
  rcases hg.row r hr with h1 | h1
  · exact hdis r h1 h
  · have := (hw.2.2.2.2.lt r h).2; omega

set_option maxHeartbeats 1000000 in
theorem bitsWrites_run (l : List Piece) (v : Value) (w : World) (hl : l.length ≤ 1048576) (hok : ∀ p ∈ l, p.ok) (hr : RdV w 2 v l.length (l.flatMap Piece.cells)) :
    Calls Try.prog 4 #[v] w fun e w' => e = .returned (.bool true) ∧ Below w.heap.size w w' := by
  obtain ⟨ao0, cap0, rfl, hlc, hcm⟩ := RdV.shape hr
  unfold maxLen at hcm
  go_enter Try.func4, Try.ntmps4
  go_wp2_with fail
  refine (awake_any w).mono ?_
  rintro e w1 ⟨rfl, hb1⟩
  have hr1 := Lib.hid (hr.below hb1)
  have HB1 := Lib.hid hb1
  clear hb1 hr
  go_wp2_with fail
  refine (newWriter_any w1).mono ?_
  rintro e w2 ⟨rfl, rfl⟩
  go_wp2_with fail
  go_loopg [4, 5, 11] l.length (fun m s4 s5 s11 wr => ∃ k : Nat, k + m = l.length ∧ s11 = .int .i64 k ∧ ∃ sv ao cap, Wr wr w1.heap.size sv (wrtn (l.take k)) ∧ s4 = .slice ao (bits01 (wrtn (l.take k))).length cap ∧
    Own wr (w1.heap.size + 1) (.slice ao (bits01 (wrtn (l.take k))).length cap) (bits01 (wrtn (l.take k))) ∧ (∀ r, (Value.slice ao (bits01 (wrtn (l.take k))).length cap).ownBlock = some r → sv.ownBlock ≠ some r) ∧ Below w1.heap.size w1 wr)
  case atStart => exact ⟨0, by omega, rfl, _, none, 0, newWr_wr w1, by simp [wrtn, bits01], by simpa [wrtn, bits01] using Own.nil _ _, (fun r h => by simp [Value.ownBlock] at h), (Below.refl _ _).alloc (Nat.le_refl _) _⟩
  case round =>
    obtain ⟨k, hk, rfl, sv, ao, cap, hwr, rfl, hown, hdis, hbel⟩ := hrel
    by_cases h0 : gk = 0
    · obtain rfl : k = l.length := by omega
      rw [List.take_length] at hwr hown ⊢
      have hwl := wrtn_len l
      have hpl := length_pack8 (wrtn l)
      have HP := Lib.hid hpl
      have HB := Lib.hid hbel
      have HO := Lib.hid hown
      clear hpl hbel hdis
      have hn1 : (wrtn l).length ≤ 1125899906842064 := by omega
      have hn2 : (wrtn l).length ≤ 140737488355328 := by omega
      have hwd : Wr wr.drew w1.heap.size sv (wrtn l) := hwr
      have hrd0 : Rd wr.drew (.slice ao (bits01 (wrtn l)).length cap) (bits01 (wrtn l)) := HO.out.rd
      clear hwr hown
      go_upto_region 13 with fail
      go_cut [2] (fun s2 wx => s2 = .bool true ∧ Below w1.heap.size w1 wx)
      case first =>
        go_region_with (first
          | (go_at_call 18; refine (bytes_any w1.heap.size sv _ _ hn1 hwd).mono ?_; rintro e w4 ⟨ao4, cap4, rfl, ho4, hb4⟩; have c4 := run_str ho4.rd 30 5 9 Try.underlying30 Try.underlying5 Try.underlying9)
          | (go_at_call 19; refine (rbytes_any _ _ _ hn2 (hrd0.below hb4)).mono ?_; rintro e w5 ⟨ao5, cap5, rfl, ho5, hb5⟩; have c4' := run_str (ho4.rd.below hb5) 30 5 9 Try.underlying30 Try.underlying5 Try.underlying9; have c5 := run_str ho5.rd 30 5 9 Try.underlying30 Try.underlying5 Try.underlying9))
        all_goals (go_wp2_with fail; go_meet; go_light; exact ⟨by simp, HB.out.drew.trans ((show Below w1.heap.size wr.drew w4 from hb4.mono HB.out.size).trans (hb5.mono (Nat.le_trans HB.out.size hb4.size)))⟩)
      case rest =>
        obtain ⟨rfl, hbx⟩ := hcut
        have H2 := Lib.hid hbx
        clear hbx
        go_wp2
        go_ret
        exact ⟨rfl, HB1.out.trans (H2.out.mono HB1.out.size)⟩
    · have hlt : k < l.length := by omega
      obtain ⟨b, off, cap', he, hcv, hcn⟩ := piece_at (hr1.out.below hbel) k hlt
      have hbs : b < w1.heap.size := by
        obtain ⟨b', off', cap'', he', hcv', _⟩ := piece_at hr1.out k hlt
        rw [he] at he'
        simp only [Value.slice.injEq, Option.some.injEq, Addr.mk.injEq] at he'
        have := World.block_lt_of_cell? w1 _ hcv'
        simp at this
        omega
      simp only [Value.slice.injEq, true_and] at he
      obtain ⟨rfl, rfl⟩ := he
      have hpk := hok l[k] (List.getElem_mem hlt)
      have hwl := wrtn_len (l.take k)
      have hwt := wrtn_take l k hlt
      have HT := Lib.hid hwt
      clear hwt
      go_upto_region 8 with fail
      go_still_tail 11, (by kernel_rfl)
      change wpList _ _ _ _ _ wr.drew
      have hwd : Wr wr.drew w1.heap.size sv (wrtn (l.take k)) := hwr
      have hbd : Below w1.heap.size w1 wr.drew := hbel.drew
      have hod : Own wr.drew (w1.heap.size + 1) (.slice ao (bits01 (wrtn (l.take k))).length cap) (bits01 (wrtn (l.take k))) := hown
      generalize wr.drew = wd at hwd hbd hod ⊢
      clear hwr hbel hown hcv hcn
      go_wp2_with fail
      refine (put_piece l[k] hpk w1.heap.size sv _ wd (by simp at hwl; omega) hwd).mono ?_
      rintro e w4 ⟨rfl, sv4, hw4, hs4⟩
      rw [← HT.out] at hw4
      obtain ⟨hod4, hdis4, hbd4⟩ := writes_step hod hdis hbd hwd hs4
      clear hod hdis hbd hwd hs4
      obtain ⟨_, _, _, he, hcv, hcn⟩ := piece_at (hr1.out.below hbd4) k hlt
      simp only [Value.slice.injEq, Option.some.injEq, Addr.mk.injEq, true_and, and_true] at he
      obtain ⟨⟨rfl, rfl⟩, rfl⟩ := he
      have hok2 := hpk
      obtain ⟨okv, okn1, okn2⟩ := hok2
      have HW := Lib.hid hw4
      clear hw4
      go_upto_region 9 with fail
      go_still_tail 11, (by kernel_rfl)
      change wpList _ _ _ _ _ w4.drew
      have hw5 : Hid (Wr w4.drew w1.heap.size sv4 (wrtn (l.take (k + 1)))) := HW.out
      have hb5 : Below w1.heap.size w1 w4.drew := hbd4.drew
      have ho5 : Own w4.drew (w1.heap.size + 1) (.slice ao (bits01 (wrtn (l.take k))).length cap) (bits01 (wrtn (l.take k))) := hod4
      clear HW hbd4 hod4 hcv hcn
      generalize w4.drew = w5 at hw5 hb5 ho5 ⊢
      have hsz : w1.heap.size + 1 ≤ w5.heap.size := by have := hw5.out.lt; omega
      have hbl : (bits01 (wrtn (l.take k))).length ≤ 140737488355200 := by rw [bits01_len]; simp at hwl; omega
      have hlen2 : (bits01 (wrtn (l.take k)) ++ (bitsOf l[k].v l[k].nw).map b01) = bits01 (wrtn (l.take (k + 1))) := by rw [HT.out]; simp [bits01]
      have hput := rput_any l[k].v okv l[k].n ⟨okn1, okn2⟩ l[k].nw (by unfold Piece.nw; omega) (w1.heap.size + 1) _ _ w5 hsz hbl ho5
      rw [hlen2] at hput
      have HP := Lib.hid hput
      have HL := Lib.hid hlen2
      have hlow : ∀ r, (Value.slice ao (bits01 (wrtn (l.take k))).length cap).ownBlock = some r → w1.heap.size + 1 ≤ r := fun r hr => (ho5.lt r hr).1
      clear hput hlen2 ho5
      go_wp2_with fail
      refine HP.out.mono ?_
      rintro e w6 ⟨ao6, cap6, rfl, hg⟩
      have hw6 := hw5.out.keep hg.chg (fun h => by have := hlow _ h; omega) (fun r hr h => hdis4 r h hr)
      have R := writes_put hw5.out hlow hdis4 hb5 hg
      have HR := Lib.hid R
      clear R hg hw5 hb5 hdis4 hlow
      have hne : ((wrtn (l.take (k + 1))).length != (bits01 (wrtn (l.take (k + 1)))).length) = false := by rw [bits01_len]; simp
      go_wp2_with fail
      refine (wlen_any w1.heap.size sv4 _ _ hw6).mono ?_
      rintro e w7 ⟨rfl, rfl⟩
      have HW6 := Lib.hid hw6
      clear hw6
      go_wp2
      go_roundg (gk - 1)
      case measure => go_light; omega
      case rel =>
        go_light
        obtain ⟨r1, r2, r3⟩ := HR.out
        exact ⟨k + 1, by omega, by go_num, sv4, ao6, cap6, HW6.out, rfl, r1, r2, r3⟩
theorem bitsWrites_walk {H : Type} (enc : TypeId × Value → H) (W : World) (base : Nat) (v0 : Value) (d0 : DataW H) (p0 : List MemPlace)
    (o0 : Value.okWide Try.prog W .any base 27 v0)
    (t0 : DataW.Trod enc Try.prog W 0 (fun _ => true) true 27 v0 d0 p0)
    (hsz : (DataW.weightsEach Try.prog [27] [d0]).all (· ≤ reachBytes) = true) (hk : Rows.uptoSmall H [d0] = true) :
    Calls Try.prog 4 #[v0] W fun e W' => e = .returned (.bool true) ∧ Below W.heap.size W W' := by
  obtain ⟨l, hr, hok, hbk, _⟩ := open_pieces o0 t0
  have h := bulk_small hk
  simp only [Rows.uptoBulkAll] at h
  exact bitsWrites_run l v0 W (by omega) hok hr

end Go.Proofs.Ytnocfepkjhdliaa
