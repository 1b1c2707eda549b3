/- In a drawn region, by hand: 'x[lo:hi]' and 'string(b)' are taken first. -/
import Derived.Test.YtjifgipkfkhnpaaMem
import Derived.Deep.RegionHeld3
namespace Go.Proofs.Ytjifgipkfkhnpaa
open Go.RowKit
set_option linter.unusedVariables false

section
variable {P : Program} {ops : Array Oper} {S : World → Prop} {o : Oper} {a : Act}
theorem yields_slice (hw : Region.wanted o (yielded ops a.tmps) = true) (x : Operand) (lo hi : Option Operand) (t : TypeId)
    (ho : o.op = .slice t x lo hi none) (e : TypeId) (size : Nat) (z : Value) (bytes : Nat) (ht : P.underlying t = some (.slice e)) (hinfo : (P.info? e).map (fun i => (i.zero, i.size, i.bytes)) = some (some z, size, bytes))
    (ao : Option Addr) (n cap : Nat) (hx : a.eval x = .slice ao n cap) (l m : Nat)
    (hb : ∀ w, (Instr.sliceBounds true n cap (lo.map a.eval) (hi.map a.eval) none).run P w = .ok (l, m, cap) w) (v : Value) (hv : v = .slice (if cap = l then ao else ao.map (·.add (l * size))) (m - l) (cap - l)) :
    YieldsIf P ops S o v a := by
  obtain ⟨i, hi', hz, hsize, hby⟩ := info_parts hinfo
  refine Or.inl ⟨hw, fun w _ => ?_⟩
  have hrun : (Instr.sliceAt t (.slice ao n cap) (lo.map a.eval) (hi.map a.eval) none).run P w = .ok (.slice (if cap = l then ao else ao.map (·.add (l * size))) (m - l) (cap - l)) w := by
    simp only [Instr.sliceAt, Sem.run_bind, run_underlying ht, Result.andThen_ok, Instr.slice, hb, sizeOf, typeInfo]
    simp [hi', hsize]
  unfold execOp
  simp only [ho, hx, Option.map_none, Sem.run_bind, hrun, Result.andThen_ok, hv]
  rfl

theorem yields_convert (hw : Region.wanted o (yielded ops a.tmps) = true) (x : Operand) (src dst : TypeId) (ho : o.op = .convert src dst x) (u v : Value) (hx : a.eval x = u)
    (h : ∀ w, S w → (convert src dst u).run P w = .ok v w) : YieldsIf P ops S o v a := by
  refine Or.inl ⟨hw, fun w hs => ?_⟩
  unfold execOp
  simp only [ho, hx, Sem.run_bind, h w hs, Result.andThen_ok]
  rfl

/-- The slice that an expression gives: its name, and that it reads. -/
theorem RdV.cutN {w : World} {size n cap : Nat} {ao : Option Addr} {xs : List Value} (h : RdV w size (.slice ao n cap) n xs) (l m : Nat) (hl : l ≤ m) (hm : m ≤ n) :
    ∃ ao2 c2, Value.slice (if cap = l then ao else ao.map (·.add (l * size))) (m - l) (cap - l) = .slice ao2 (m - l) c2 ∧ RdV w size (.slice ao2 (m - l) c2) (m - l) ((xs.drop (l * size)).take ((m - l) * size)) :=
  ⟨_, _, rfl, h.cut l m hl hm⟩
end

/-- The same of bytes. -/
theorem Rd.cutN {w : World} {cap : Nat} {ao : Option Addr} {bs : List UInt8} (h : Rd w (.slice ao bs.length cap) bs) (l m : Nat) (hl : l ≤ m) (hm : m ≤ bs.length) :
    ∃ ao2 c2, Value.slice (if cap = l then ao else ao.map (·.add (l * 1))) (m - l) (cap - l) = .slice ao2 ((bs.drop l).take (m - l)).length c2 ∧ Rd w (.slice ao2 ((bs.drop l).take (m - l)).length c2) ((bs.drop l).take (m - l)) := by
  obtain ⟨ao2, c2, h1, h2⟩ := RdV.cutN h.v l m hl hm
  have e : ((bs.drop l).take (m - l)).length = m - l := by simp; omega
  refine ⟨ao2, c2, by rw [e, h1], ?_⟩
  unfold Rd
  rw [e]
  rw [Nat.mul_one, Nat.mul_one] at h2
  simpa using h2
theorem Rd.cutR {w : World} {cap : Nat} {ao : Option Addr} {bs : List UInt8} (h : Rd w (.slice ao bs.length cap) bs) (l : Nat) (hl : l ≤ bs.length) :
    ∃ ao2 c2, Value.slice (if cap = l then ao else ao.map (·.add (l * 1))) (bs.length - l) (cap - l) = .slice ao2 (bs.drop l).length c2 ∧ Rd w (.slice ao2 (bs.drop l).length c2) (bs.drop l) := by
  obtain ⟨ao2, c2, h1, h2⟩ := h.cutN l bs.length hl (Nat.le_refl _)
  have e : (bs.drop l).take (bs.length - l) = bs.drop l := List.take_of_length_le (by simp)
  rw [e] at h1 h2
  exact ⟨ao2, c2, h1, h2⟩
end Go.Proofs.Ytjifgipkfkhnpaa
