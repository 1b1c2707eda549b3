/- lz.Pack's map: of each four bytes the latest place that is known. -/
import Derived.Test.YtglpdkcpnigniaaLzClos
import Derived.Maps.OwnSet
import Derived.Maps.OwnOps
import Derived.WideKeyArr
import Derived.WideKeyPair
namespace Go.Proofs.Ytglpdkcpnigniaa
open Go.RowKit Go.Maps
set_option linter.unusedVariables false

theorem arr4 : WideMaps.ArrKey Try.prog 36 5 4 := ⟨Try.underlying36, by kernel_rfl, by kernel_rfl, by kernel_rfl⟩
theorem law4 : Keyed Try.prog 36 := Keyed.of_law arr4.law
theorem zeroI (w : World) : (zeroValue 3).run Try.prog w = .ok (.int .i64 0) w := by kernel_rfl

theorem wfB (x : UInt8) : (Lit.int .u8 (x.toNat : Int)).wf = true := by
  have := x.toNat_lt
  simp [Lit.wf, IntKind.min, IntKind.max, IntKind.signed, IntKind.bits]
  omega

theorem litB (x : UInt8) : Lit.keyBytes (.int .u8 (x.toNat : Int)) = [x] := by
  have h := x.toNat_lt
  have e : ((x.toNat : Int) % 256).toNat = x.toNat := by omega
  simp [Lit.keyBytes, IntKind.bits, bytesBE, bytesLE, e]

theorem key4 (a b c d : UInt8) : keyOf Try.prog 36 (.agg #[.int .u8 (a.toNat : Int), .int .u8 (b.toNat : Int), .int .u8 (c.toNat : Int), .int .u8 (d.toNat : Int)]) = some (.string [a, b, c, d]) := by
  have hkt : Try.prog.keyType 36 = true := by kernel_rfl
  obtain ⟨m, hm⟩ : ∃ m, Try.prog.types.size = m + 1 := ⟨Try.prog.types.size - 1, by have h : 0 < Try.prog.types.size := of_decide_eq_true (by kernel_rfl); omega⟩
  unfold keyOf
  simp only [arr4.hu]
  rw [if_pos (by simp [hkt, Value.formed, arr4.hu, arr4.size]), hm]
  unfold Program.keyLits
  simp only [arr4.hu, Value.cells]
  rw [if_pos (by rw [arr4.size]; rfl), show List.range 4 = [0, 1, 2, 3] from rfl, List.mapM_cons, List.mapM_cons, List.mapM_cons, List.mapM_cons, List.mapM_nil]
  simp [arr4.one, Program.keyLits, Try.underlying5, wfB, keyBytes, litB]

theorem at4_eq (bs : List UInt8) (i : Nat) (h : i + 4 ≤ bs.length) : at4 bs i = [bs[i], bs[i + 1], bs[i + 2], bs[i + 3]] := by
  unfold at4
  apply List.ext_getElem
  · simp; omega
  · intro k h1 h2
    have h3 : k < 4 := by simpa using h2
    rw [List.getElem_take, List.getElem_drop]
    match k, h3 with
    | 0, _ => rfl
    | 1, _ => rfl
    | 2, _ => rfl
    | 3, _ => rfl

/-- The map's block: the places below s are known. -/
def MapIs (w : World) (mb : Nat) (bs : List UInt8) (s : Nat) : Prop :=
  ∃ D : DataW Unit, w.ownsMap Try.prog 36 (plainElem Try.prog 3) mb s D ∧
    ∀ j, j + 4 ≤ bs.length → Maps.has D (.string (at4 bs j)) = (lastB bs j s).isSome ∧ D.atKey (.string (at4 bs j)) (.lit (.int .i64 0)) = .lit (.int .i64 (((lastB bs j s).getD 0 : Nat) : Int))

theorem MapIs.made (w : World) (bs : List UInt8) : MapIs (w.alloc (.map #[] 0)) w.heap.size bs 0 :=
  ⟨.map [], World.ownsMap_made _ _ _ _, fun j _ => ⟨rfl, rfl⟩⟩

theorem MapIs.chg {S : Nat → Prop} {w w' : World} {mb : Nat} {bs : List UInt8} {s : Nat} (h : MapIs w mb bs s) (hc : Chg S w w') (hS : ¬ S mb) : MapIs w' mb bs s := by
  obtain ⟨D, hD, hq⟩ := h
  refine ⟨D, ?_, hq⟩
  have hl := hD.lt
  obtain ⟨es, clock, hb, rest⟩ := hD
  exact ⟨es, clock, (hc.block mb hl hS).trans hb, rest⟩

theorem put_ok {D : DataW Unit} {bs : List UInt8} {s : Nat} (hm : IsMap D) (hs : s + 4 ≤ bs.length)
    (hq : ∀ j, j + 4 ≤ bs.length → Maps.has D (.string (at4 bs j)) = (lastB bs j s).isSome ∧ D.atKey (.string (at4 bs j)) (.lit (.int .i64 0)) = .lit (.int .i64 (((lastB bs j s).getD 0 : Nat) : Int))) :
    ∀ j, j + 4 ≤ bs.length → Maps.has (D.put (.string (at4 bs s)) (.lit (.int .i64 (s : Int)))) (.string (at4 bs j)) = (lastB bs j (s + 1)).isSome ∧
      (D.put (.string (at4 bs s)) (.lit (.int .i64 (s : Int)))).atKey (.string (at4 bs j)) (.lit (.int .i64 0)) = .lit (.int .i64 (((lastB bs j (s + 1)).getD 0 : Nat) : Int)) := by
  intro j hj
  by_cases h : at4 bs s = at4 bs j
  · rw [← h, has_put_same hm (show WideAt.IsKeyLit (.string (at4 bs s)) from True.intro), atKey_put_same hm (show WideAt.IsKeyLit (.string (at4 bs s)) from True.intro)]
    simp [lastB, h]
  · have hne : (Lit.string (at4 bs j)) ≠ .string (at4 bs s) := fun e => by
      injection e with e
      exact h e.symm
    rw [has_put_other hne, atKey_put_other hne]
    obtain ⟨h1, h2⟩ := hq j hj
    simp only [lastB, if_neg h]
    exact ⟨h1, h2⟩

end Go.Proofs.Ytglpdkcpnigniaa
