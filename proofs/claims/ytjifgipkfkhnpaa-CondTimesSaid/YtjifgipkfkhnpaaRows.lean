/-
  NARROWER THAN 'FOR EVERY INPUT', by the rows' own cells (each row's printed sentence says how): CondSpans: loops · CondJoins: loops · CondTags: loops · CondAlike: loops.
  DERIVED. THE GIVEN ROWS OF THIS SEAT. 5 by the template 'for every input the law returns true; each argument reads behind the call as it read before'; 0 by the template 'total and deterministic' (their statements: YtjifgipkfkhnpaaTotals.lean).
  GIVEN WITH THE SEED: the statements are not yours to turn. If you find one false, say at which input.
  Laid BY PROGRAM, IN A SANDBOX (cutbox-rows.mjs): the forced cells as the released guide's own fill.sh prints them over the translation 461a604e2eff358c… (all of the seat's roots in one cut). By AI agents, Wed Nov 11 2026. No macro, syntax, notation, axiom, sorry.
-/
import Derived.Test.YtjifgipkfkhnpaaChecked
import GoSem.Claim
import GoSem.ClaimJoined
import GoSem.ClaimMapViews
import Derived.JoinedTies
import Derived.KernelRfl
namespace Go.Proofs.Ytjifgipkfkhnpaa
/- THE CELL 'sum', in the pinned program and in every row, IS THE sha256 OF THE DUMP (.gsa) THAT YtjifgipkfkhnpaaProg.lean LOADS. Nothing in Lean hashes anything: it is a label: what it is worth is what the hold of that sum in a sandbox is worth. -/
noncomputable def Try.pinned : Pinned := { name := "ytjifgipkfkhnpaa", sum := "461a604e2eff358c49d27213db47fd3ff2b41069eccaa07c9ee1540b5613694f", checked := Try.checked }
namespace Rows
def none {H : Type} : Left H := { results := [], args := [] }

/-- 'gristlaw20.CondSpans': WHATEVER THE INPUT: true; the input reads as it did. -/
def condSpansSpec : ChangeSpec := { name := "condSpans", fn := fun _ => fun
  | [d1, d2, d3] => { results := [.lit (.bool true)], args := [d1, d2, d3] }
  | _ => none }
def condSpansRow : OpenClaim := { program := "ytjifgipkfkhnpaa", sum := "461a604e2eff358c49d27213db47fd3ff2b41069eccaa07c9ee1540b5613694f", func := "grist/gristlaw20.CondSpans", spec := "condSpans", inPlace := ["math.Float64frombits"], unfollowed := true, recurses := true, loops := true, apart := false }
def CondSpansSaid : Prop := condSpansRow.holds Try.pinned (OpenSpec.ofChange condSpansSpec)

/-- ITS FALSE NEIGHBOUR: 'it returns false'. Refute it at one input. -/
def condSpansWrong : ChangeSpec := { name := "condSpans", fn := fun _ => fun
  | [d1, d2, d3] => { results := [.lit (.bool false)], args := [d1, d2, d3] }
  | _ => none }
def CondSpansWrongFalsely : Prop := condSpansRow.holds Try.pinned (OpenSpec.ofChange condSpansWrong)

/-- 'gristlaw20.CondJoins': WHATEVER THE INPUT: true; the input reads as it did. -/
def condJoinsSpec : ChangeSpec := { name := "condJoins", fn := fun _ => fun
  | [d1, d2, d3, d4] => { results := [.lit (.bool true)], args := [d1, d2, d3, d4] }
  | _ => none }
def condJoinsRow : OpenClaim := { program := "ytjifgipkfkhnpaa", sum := "461a604e2eff358c49d27213db47fd3ff2b41069eccaa07c9ee1540b5613694f", func := "grist/gristlaw20.CondJoins", spec := "condJoins", inPlace := ["math.Float64frombits"], unfollowed := true, recurses := true, loops := true, apart := false }
def CondJoinsSaid : Prop := condJoinsRow.holds Try.pinned (OpenSpec.ofChange condJoinsSpec)

/-- ITS FALSE NEIGHBOUR: 'it returns false'. Refute it at one input. -/
def condJoinsWrong : ChangeSpec := { name := "condJoins", fn := fun _ => fun
  | [d1, d2, d3, d4] => { results := [.lit (.bool false)], args := [d1, d2, d3, d4] }
  | _ => none }
def CondJoinsWrongFalsely : Prop := condJoinsRow.holds Try.pinned (OpenSpec.ofChange condJoinsWrong)

/-- 'gristlaw20.CondTimes': WHATEVER THE INPUT: true; the input reads as it did. -/
def condTimesSpec : ChangeSpec := { name := "condTimes", fn := fun _ => fun
  | [d1, d2, d3] => { results := [.lit (.bool true)], args := [d1, d2, d3] }
  | _ => none }
def condTimesRow : OpenClaim := { program := "ytjifgipkfkhnpaa", sum := "461a604e2eff358c49d27213db47fd3ff2b41069eccaa07c9ee1540b5613694f", func := "grist/gristlaw20.CondTimes", spec := "condTimes", inPlace := ["math.Float64frombits"], unfollowed := true, recurses := true, apart := false }
def CondTimesSaid : Prop := condTimesRow.holds Try.pinned (OpenSpec.ofChange condTimesSpec)

/-- ITS FALSE NEIGHBOUR: 'it returns false'. Refute it at one input. -/
def condTimesWrong : ChangeSpec := { name := "condTimes", fn := fun _ => fun
  | [d1, d2, d3] => { results := [.lit (.bool false)], args := [d1, d2, d3] }
  | _ => none }
def CondTimesWrongFalsely : Prop := condTimesRow.holds Try.pinned (OpenSpec.ofChange condTimesWrong)

/-- 'gristlaw20.CondTags': WHATEVER THE INPUT: true; the input reads as it did. -/
def condTagsSpec : ChangeSpec := { name := "condTags", fn := fun _ => fun
  | [d1, d2, d3] => { results := [.lit (.bool true)], args := [d1, d2, d3] }
  | _ => none }
def condTagsRow : OpenClaim := { program := "ytjifgipkfkhnpaa", sum := "461a604e2eff358c49d27213db47fd3ff2b41069eccaa07c9ee1540b5613694f", func := "grist/gristlaw20.CondTags", spec := "condTags", inPlace := ["math.Float64frombits"], unfollowed := true, recurses := true, loops := true, apart := false }
def CondTagsSaid : Prop := condTagsRow.holds Try.pinned (OpenSpec.ofChange condTagsSpec)

/-- ITS FALSE NEIGHBOUR: 'it returns false'. Refute it at one input. -/
def condTagsWrong : ChangeSpec := { name := "condTags", fn := fun _ => fun
  | [d1, d2, d3] => { results := [.lit (.bool false)], args := [d1, d2, d3] }
  | _ => none }
def CondTagsWrongFalsely : Prop := condTagsRow.holds Try.pinned (OpenSpec.ofChange condTagsWrong)

/-- 'gristlaw20.CondAlike': WHATEVER THE INPUT: true; the input reads as it did. -/
def condAlikeSpec : ChangeSpec := { name := "condAlike", fn := fun _ => fun
  | [d1, d2, d3] => { results := [.lit (.bool true)], args := [d1, d2, d3] }
  | _ => none }
def condAlikeRow : OpenClaim := { program := "ytjifgipkfkhnpaa", sum := "461a604e2eff358c49d27213db47fd3ff2b41069eccaa07c9ee1540b5613694f", func := "grist/gristlaw20.CondAlike", spec := "condAlike", inPlace := ["math.Float64frombits"], unfollowed := true, recurses := true, loops := true, apart := false }
def CondAlikeSaid : Prop := condAlikeRow.holds Try.pinned (OpenSpec.ofChange condAlikeSpec)

/-- ITS FALSE NEIGHBOUR: 'it returns false'. Refute it at one input. -/
def condAlikeWrong : ChangeSpec := { name := "condAlike", fn := fun _ => fun
  | [d1, d2, d3] => { results := [.lit (.bool false)], args := [d1, d2, d3] }
  | _ => none }
def CondAlikeWrongFalsely : Prop := condAlikeRow.holds Try.pinned (OpenSpec.ofChange condAlikeWrong)

/- THE SECOND FORM. 'bulk': how many values and letters a reading holds, each counted each time it is reached (what is shared counts as often as it is met; a slice's spare places count too). A statement '..UptoSaid' is the law's where the arguments, and the package variables that the reading takes, are together of bulk at most 1048576: NARROWER than '..Said'. Prove '..Said' where nothing that the law and all that it calls make is longer than what came in: it says more and counts as full. Else prove '..UptoSaid'. A law counts once. -/
mutual
def uptoBulk {H : Type} : DataW H → Nat
  | .lit (.string bytes) => bytes.length + 1
  | .lit _ => 1
  | .nil => 1
  | .ptr d => uptoBulk d + 1
  | .slice elems spare => uptoBulkAll elems + uptoBulkAll spare + 1
  | .agg parts => uptoBulkAll parts + 1
  | .iface _ d => uptoBulk d + 1
  | .map entries => uptoBulkEntries entries + 1
  | .held _ => 1
def uptoBulkAll {H : Type} : List (DataW H) → Nat
  | [] => 0
  | d :: r => uptoBulk d + uptoBulkAll r
def uptoBulkEntries {H : Type} : List (Lit × DataW H) → Nat
  | [] => 0
  | x :: r => uptoBulkEntry x + uptoBulkEntries r
def uptoBulkEntry {H : Type} : Lit × DataW H → Nat
  | (.string bytes, d) => bytes.length + uptoBulk d + 1
  | (_, d) => uptoBulk d + 1
 end
def uptoSmall : (H : Type) → List (DataW H) → Bool := fun _ ds => decide (uptoBulkAll ds ≤ 1048576)
def OpenSpec.upto (s : _root_.Go.ChangeSpec) : _root_.Go.OpenSpec := { _root_.Go.OpenSpec.ofChange s with cond := some uptoSmall }

/-- 'gristlaw20.CondSpans', WHERE WHAT IT READS IS OF BULK AT MOST 1048576: true; the input reads as it did. -/
def condSpansUptoRow : OpenClaim := { program := "ytjifgipkfkhnpaa", sum := "461a604e2eff358c49d27213db47fd3ff2b41069eccaa07c9ee1540b5613694f", func := "grist/gristlaw20.CondSpans", spec := "condSpans", inPlace := ["math.Float64frombits"], unfollowed := true, recurses := true, loops := true, apart := false, narrowed := true }
def CondSpansUptoSaid : Prop := condSpansUptoRow.holds Try.pinned (OpenSpec.upto condSpansSpec)

/-- 'gristlaw20.CondJoins', WHERE WHAT IT READS IS OF BULK AT MOST 1048576: true; the input reads as it did. -/
def condJoinsUptoRow : OpenClaim := { program := "ytjifgipkfkhnpaa", sum := "461a604e2eff358c49d27213db47fd3ff2b41069eccaa07c9ee1540b5613694f", func := "grist/gristlaw20.CondJoins", spec := "condJoins", inPlace := ["math.Float64frombits"], unfollowed := true, recurses := true, loops := true, apart := false, narrowed := true }
def CondJoinsUptoSaid : Prop := condJoinsUptoRow.holds Try.pinned (OpenSpec.upto condJoinsSpec)

/-- 'gristlaw20.CondTimes', WHERE WHAT IT READS IS OF BULK AT MOST 1048576: true; the input reads as it did. -/
def condTimesUptoRow : OpenClaim := { program := "ytjifgipkfkhnpaa", sum := "461a604e2eff358c49d27213db47fd3ff2b41069eccaa07c9ee1540b5613694f", func := "grist/gristlaw20.CondTimes", spec := "condTimes", inPlace := ["math.Float64frombits"], unfollowed := true, recurses := true, apart := false, narrowed := true }
def CondTimesUptoSaid : Prop := condTimesUptoRow.holds Try.pinned (OpenSpec.upto condTimesSpec)

/-- 'gristlaw20.CondTags', WHERE WHAT IT READS IS OF BULK AT MOST 1048576: true; the input reads as it did. -/
def condTagsUptoRow : OpenClaim := { program := "ytjifgipkfkhnpaa", sum := "461a604e2eff358c49d27213db47fd3ff2b41069eccaa07c9ee1540b5613694f", func := "grist/gristlaw20.CondTags", spec := "condTags", inPlace := ["math.Float64frombits"], unfollowed := true, recurses := true, loops := true, apart := false, narrowed := true }
def CondTagsUptoSaid : Prop := condTagsUptoRow.holds Try.pinned (OpenSpec.upto condTagsSpec)

/-- 'gristlaw20.CondAlike', WHERE WHAT IT READS IS OF BULK AT MOST 1048576: true; the input reads as it did. -/
def condAlikeUptoRow : OpenClaim := { program := "ytjifgipkfkhnpaa", sum := "461a604e2eff358c49d27213db47fd3ff2b41069eccaa07c9ee1540b5613694f", func := "grist/gristlaw20.CondAlike", spec := "condAlike", inPlace := ["math.Float64frombits"], unfollowed := true, recurses := true, loops := true, apart := false, narrowed := true }
def CondAlikeUptoSaid : Prop := condAlikeUptoRow.holds Try.pinned (OpenSpec.upto condAlikeSpec)

end Rows
end Go.Proofs.Ytjifgipkfkhnpaa
