/- 'append(b, s...)': a string's bytes behind the call's own. -/
import Derived.Test.YtmhmmnleijadnaaBytes
import Derived.Lib.AppendStr
namespace Go.Proofs.Ytmhmmnleijadnaa
open Go.RowKit
set_option linter.unusedVariables false

theorem str_of (s : ByteArray) : strOf s.toList = s := by
  have e : s = strOf s.data.toList := by cases s; simp [strOf]
  rw [e, strOf_toList]
theorem toList_len (s : ByteArray) : s.toList.length = s.size := by
  have h := congrArg ByteArray.size (str_of s)
  rw [strOf_size] at h
  exact h
theorem strCells_bV (s : ByteArray) : Lib.strCells s = s.toList.map bV := by
  have e : s = strOf s.data.toList := by cases s; simp [strOf]
  rw [e, strOf_toList]
  rfl

theorem rd_beN (n v : Nat) (hv : v < 2 ^ (8 * n)) (r : List UInt8) : rdN n (beN n v ++ r) = v := by
  unfold rdN
  rw [List.take_left' (beN_len n v)]
  unfold beN
  rw [bits8_pack8, length_bitsOf]
  have e2 : (8 - 8 * n % 8) % 8 = 0 := by omega
  rw [e2, List.replicate_zero, List.append_nil, num_bitsOf]
  exact Nat.mod_eq_of_lt hv
theorem beN_rdN (n : Nat) (r : List UInt8) (h : n ≤ r.length) : beN n (rdN n r) = r.take n := by
  unfold beN rdN
  have e : 8 * n = (bits8 (r.take n)).length := by simp; omega
  rw [e, bitsOf_num, pack8_bits8]

section
variable {P : Program}
theorem run_append_str (w : World) (base : Nat) (t u ty e : TypeId) (i : TypeInfo) (ht : P.underlying t = some (.slice e)) (hu : P.underlying u = some .string) (hi : P.info? e = some i) (hz : i.zero = some (.int .u8 0))
    (hsize : i.size = 1) (hby : i.bytes = 1) (v : Value) (n : Nat) (xs : List Value) (hown : w.ownsRow base e 1 v n xs) (s : ByteArray)
    (h63 : n + s.size ≤ maxLen) (hbytes : n + s.size ≤ 140737488355328) (hbase : base ≤ w.heap.size) :
    ∃ ao cap w', (Builtin.append_ #[t, u] ty #[v, .string s]).run P w = .ok (.slice ao (n + s.size) cap) w' ∧ Grew w w' base e 1 v (.slice ao (n + s.size) cap) (n + s.size) (xs ++ s.toList.map bV) := by
  have hsmall : n + s.size ≤ 9223372036854775807 := by simp only [maxLen] at h63; omega
  rcases hown.2 with ⟨rfl, rfl⟩ | ⟨g, cap, cur, rfl, hbg, hg, hnc, hcm, hcsz, htake⟩
  · obtain rfl : xs = [] := List.eq_nil_of_length_eq_zero (by simpa using hown.1)
    obtain ⟨v', w', hr, ho, hgr, _⟩ := Lib.run_append_own_string (P := P) w w.heap.size t u ty e i ht hu hi hz hsize hby (.slice none 0 0) 0 [] (World.ownsRow_nil w _ e 1) s h63 hbytes (Nat.le_refl _)
    rw [strCells_bV] at ho
    obtain ⟨ao, cap, rfl⟩ := ownsRow_shape ho
    exact ⟨ao, cap, w', hr, ownsRow_mono ho hbase, hgr, fun k hk => .inr (ho.lt k hk).1⟩
  · obtain ⟨v', w', hr, ho, hgr, _⟩ := Lib.run_append_own_string (P := P) w base t u ty e i ht hu hi hz hsize hby _ n xs hown s h63 hbytes hbase
    rw [strCells_bV] at ho
    obtain ⟨ao, cap', rfl⟩ := ownsRow_shape ho
    refine ⟨ao, cap', w', hr, ho, hgr, fun k hk => ?_⟩
    by_cases hroom : n + s.size ≤ cap
    · have h2 := Lib.run_append_room_string (P := P) w t u ty e i ht hu hi hsize g n cap cur hg s hroom (by simp at hcsz; omega)
      rw [hr] at h2
      injection h2 with h3 _
      injection h3 with h4 _ _
      subst h4
      exact .inl hk
    · have holds : ∀ j v, xs[j]? = some v → w.cell? ((⟨g, 0, none⟩ : Addr).add j) = some v := hown.cells (g := g) rfl
      have hle := growslice_fits (need := n + s.size) (old := cap) (bytes := 1) (by omega) (by omega)
      have h2 := Lib.run_append_grow_string (P := P) w t u ty e i (.int .u8 0) ht hu hi hz ⟨g, 0, none⟩ n cap xs (by rw [hsize]; exact hown.1) holds s (by omega) (by omega) (by rw [hby]; exact hle)
      rw [hr] at h2
      injection h2 with h3 _
      injection h3 with h4 _ _
      subst h4
      simp [Value.ownBlock] at hk
      exact .inr (by omega)
end

theorem wpList_append_str (w : World) {ops : Array Oper} {rest : List Oper} {o : Oper} {a : Act} {Q : Exit → Act → World → Prop} (hgd : o.guard = none) (s x : Operand)
    (ho : o.op = .call { callee := .builtin .append, args := #[s, x], argTypes := #[47, 9] })
    (base : Nat) (v : Value) (ps : List UInt8) (hs : a.eval s = v) (hown : Own w base v ps) (xs : ByteArray) (hx : a.eval x = .string xs)
    (hlen : ps.length + xs.size ≤ 140737488355328) (hbase : base ≤ w.heap.size)
    (h : ∀ ao cap w', Grew w w' base 5 1 v (.slice ao (ps ++ xs.toList).length cap) (ps ++ xs.toList).length ((ps ++ xs.toList).map bV) → wpList Try.prog ops Q rest (a.put o.dst (.slice ao (ps ++ xs.toList).length cap)) w') : wpList Try.prog ops Q (o :: rest) a w := by
  obtain ⟨i, hi, hz, hsize, hby⟩ := info_parts infoU8
  obtain ⟨ao, cap, w', hr, h2⟩ := run_append_str (P := Try.prog) w base 47 9 o.type 5 i Try.underlying47 Try.underlying9 hi hz hsize hby v ps.length (ps.map bV) hown xs (by unfold maxLen; omega) hlen hbase
  refine wpList_plain hgd fun K hK => ?_
  unfold Oper.wp execOp
  simp only [ho, resolve, invoke, builtin, Sem.run_bind, Sem.run_pure, Result.andThen_ok, List.map_toArray, List.map_cons, List.map_nil, hs, hx, hr]
  have h3 := h ao cap w'
  rw [List.length_append, List.map_append, toList_len] at h3
  exact hK _ _ (h3 h2)
end Go.Proofs.Ytmhmmnleijadnaa
