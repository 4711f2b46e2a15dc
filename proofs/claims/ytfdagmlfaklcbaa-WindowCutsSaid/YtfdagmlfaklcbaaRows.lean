/-
  No cell of these rows narrows 'for every input' (looked for: loops, veiled, ifaces, maps, wideKeys, modest, calm, conditions, laid).
  DERIVED. THE GIVEN ROWS OF THIS SEAT. 6 by the template 'for every input the law returns true; each argument reads behind the call as it read before'; 0 by the template 'total and deterministic' (their statements: YtfdagmlfaklcbaaTotals.lean).
  GIVEN WITH THE SEED: the statements are not yours to turn. If you find one false, say at which input.
  Laid BY PROGRAM, IN A SANDBOX (cutbox-rows.mjs): the forced cells as the released guide's own fill.sh prints them over the translation 3927dd9a8ed022ef… (all of the seat's roots in one cut). By AI agents, Wed Nov 11 2026. No macro, syntax, notation, axiom, sorry.
-/
import Derived.Test.YtfdagmlfaklcbaaChecked
import GoSem.Claim
import GoSem.ClaimJoined
import GoSem.ClaimMapViews
import Derived.JoinedTies
import Derived.KernelRfl
namespace Go.Proofs.Ytfdagmlfaklcbaa
/- THE CELL 'sum', in the pinned program and in every row, IS THE sha256 OF THE DUMP (.gsa) THAT YtfdagmlfaklcbaaProg.lean LOADS. Nothing in Lean hashes anything: it is a label: what it is worth is what the hold of that sum in a sandbox is worth. -/
noncomputable def Try.pinned : Pinned := { name := "ytfdagmlfaklcbaa", sum := "3927dd9a8ed022efd83faee6b8fa742243de15ec6a28e2898b1f52f5b9b5ba9b", checked := Try.checked }
namespace Rows
def none {H : Type} : Left H := { results := [], args := [] }

/-- 'merestonelaw09.GridAt': WHATEVER THE INPUT: true; the input reads as it did. -/
def gridAtSpec : ChangeSpec := { name := "gridAt", fn := fun _ => fun
  | [d] => { results := [.lit (.bool true)], args := [d] }
  | _ => none }
def gridAtRow : OpenClaim := { program := "ytfdagmlfaklcbaa", sum := "3927dd9a8ed022efd83faee6b8fa742243de15ec6a28e2898b1f52f5b9b5ba9b", func := "merestone/merestonelaw09.GridAt", spec := "gridAt", apart := false }
def GridAtSaid : Prop := gridAtRow.holds Try.pinned (OpenSpec.ofChange gridAtSpec)

/-- ITS FALSE NEIGHBOUR: 'it returns false'. Refute it at one input. -/
def gridAtWrong : ChangeSpec := { name := "gridAt", fn := fun _ => fun
  | [d] => { results := [.lit (.bool false)], args := [d] }
  | _ => none }
def GridAtWrongFalsely : Prop := gridAtRow.holds Try.pinned (OpenSpec.ofChange gridAtWrong)

/-- 'merestonelaw09.GridSteps': WHATEVER THE INPUT: true; the input reads as it did. -/
def gridStepsSpec : ChangeSpec := { name := "gridSteps", fn := fun _ => fun
  | [d1, d2] => { results := [.lit (.bool true)], args := [d1, d2] }
  | _ => none }
def gridStepsRow : OpenClaim := { program := "ytfdagmlfaklcbaa", sum := "3927dd9a8ed022efd83faee6b8fa742243de15ec6a28e2898b1f52f5b9b5ba9b", func := "merestone/merestonelaw09.GridSteps", spec := "gridSteps", apart := false }
def GridStepsSaid : Prop := gridStepsRow.holds Try.pinned (OpenSpec.ofChange gridStepsSpec)

/-- ITS FALSE NEIGHBOUR: 'it returns false'. Refute it at one input. -/
def gridStepsWrong : ChangeSpec := { name := "gridSteps", fn := fun _ => fun
  | [d1, d2] => { results := [.lit (.bool false)], args := [d1, d2] }
  | _ => none }
def GridStepsWrongFalsely : Prop := gridStepsRow.holds Try.pinned (OpenSpec.ofChange gridStepsWrong)

/-- 'merestonelaw04.WindowHas': WHATEVER THE INPUT: true; the input reads as it did. -/
def windowHasSpec : ChangeSpec := { name := "windowHas", fn := fun _ => fun
  | [d1, d2] => { results := [.lit (.bool true)], args := [d1, d2] }
  | _ => none }
def windowHasRow : OpenClaim := { program := "ytfdagmlfaklcbaa", sum := "3927dd9a8ed022efd83faee6b8fa742243de15ec6a28e2898b1f52f5b9b5ba9b", func := "merestone/merestonelaw04.WindowHas", spec := "windowHas", apart := false }
def WindowHasSaid : Prop := windowHasRow.holds Try.pinned (OpenSpec.ofChange windowHasSpec)

/-- ITS FALSE NEIGHBOUR: 'it returns false'. Refute it at one input. -/
def windowHasWrong : ChangeSpec := { name := "windowHas", fn := fun _ => fun
  | [d1, d2] => { results := [.lit (.bool false)], args := [d1, d2] }
  | _ => none }
def WindowHasWrongFalsely : Prop := windowHasRow.holds Try.pinned (OpenSpec.ofChange windowHasWrong)

/-- 'merestonelaw09.GridSpans': WHATEVER THE INPUT: true; the input reads as it did. -/
def gridSpansSpec : ChangeSpec := { name := "gridSpans", fn := fun _ => fun
  | [d] => { results := [.lit (.bool true)], args := [d] }
  | _ => none }
def gridSpansRow : OpenClaim := { program := "ytfdagmlfaklcbaa", sum := "3927dd9a8ed022efd83faee6b8fa742243de15ec6a28e2898b1f52f5b9b5ba9b", func := "merestone/merestonelaw09.GridSpans", spec := "gridSpans", apart := false }
def GridSpansSaid : Prop := gridSpansRow.holds Try.pinned (OpenSpec.ofChange gridSpansSpec)

/-- ITS FALSE NEIGHBOUR: 'it returns false'. Refute it at one input. -/
def gridSpansWrong : ChangeSpec := { name := "gridSpans", fn := fun _ => fun
  | [d] => { results := [.lit (.bool false)], args := [d] }
  | _ => none }
def GridSpansWrongFalsely : Prop := gridSpansRow.holds Try.pinned (OpenSpec.ofChange gridSpansWrong)

/-- 'merestonelaw09.GridGrows': WHATEVER THE INPUT: true; the input reads as it did. -/
def gridGrowsSpec : ChangeSpec := { name := "gridGrows", fn := fun _ => fun
  | [d1, d2, d3] => { results := [.lit (.bool true)], args := [d1, d2, d3] }
  | _ => none }
def gridGrowsRow : OpenClaim := { program := "ytfdagmlfaklcbaa", sum := "3927dd9a8ed022efd83faee6b8fa742243de15ec6a28e2898b1f52f5b9b5ba9b", func := "merestone/merestonelaw09.GridGrows", spec := "gridGrows", apart := false }
def GridGrowsSaid : Prop := gridGrowsRow.holds Try.pinned (OpenSpec.ofChange gridGrowsSpec)

/-- ITS FALSE NEIGHBOUR: 'it returns false'. Refute it at one input. -/
def gridGrowsWrong : ChangeSpec := { name := "gridGrows", fn := fun _ => fun
  | [d1, d2, d3] => { results := [.lit (.bool false)], args := [d1, d2, d3] }
  | _ => none }
def GridGrowsWrongFalsely : Prop := gridGrowsRow.holds Try.pinned (OpenSpec.ofChange gridGrowsWrong)

/-- 'merestonelaw04.WindowCuts': WHATEVER THE INPUT: true; the input reads as it did. -/
def windowCutsSpec : ChangeSpec := { name := "windowCuts", fn := fun _ => fun
  | [d1, d2, d3] => { results := [.lit (.bool true)], args := [d1, d2, d3] }
  | _ => none }
def windowCutsRow : OpenClaim := { program := "ytfdagmlfaklcbaa", sum := "3927dd9a8ed022efd83faee6b8fa742243de15ec6a28e2898b1f52f5b9b5ba9b", func := "merestone/merestonelaw04.WindowCuts", spec := "windowCuts", apart := false }
def WindowCutsSaid : Prop := windowCutsRow.holds Try.pinned (OpenSpec.ofChange windowCutsSpec)

/-- ITS FALSE NEIGHBOUR: 'it returns false'. Refute it at one input. -/
def windowCutsWrong : ChangeSpec := { name := "windowCuts", fn := fun _ => fun
  | [d1, d2, d3] => { results := [.lit (.bool false)], args := [d1, d2, d3] }
  | _ => none }
def WindowCutsWrongFalsely : Prop := windowCutsRow.holds Try.pinned (OpenSpec.ofChange windowCutsWrong)

/- THE SECOND FORM. 'bulk': how many values and letters a reading holds, each counted each time it is reached (what is shared counts as often as it is met; a slice's spare places count too). A statement '..UptoSaid' is the law's where the arguments, and the package variables that the reading takes, are together of bulk at most 1048576: NARROWER than '..Said'. Prove '..Said' where nothing that the law and all that it calls make is longer than what came in: it says more and counts as full. Else prove '..UptoSaid'. A law counts once. -/
mutual
def uptoBulk {H : Type} : DataW H → Nat
  | .lit (.string bytes) => bytes.length + 1
  | .lit _ => 1
  | .nil => 1
  | .ptr d => uptoBulk d + 1
  | .slice elems spare => uptoBulkAll elems + uptoBulkAll spare + 1
  | .agg parts => uptoBulkAll parts + 1
  | .iface _ d => uptoBulk d + 1
  | .map entries => uptoBulkEntries entries + 1
  | .held _ => 1
def uptoBulkAll {H : Type} : List (DataW H) → Nat
  | [] => 0
  | d :: r => uptoBulk d + uptoBulkAll r
def uptoBulkEntries {H : Type} : List (Lit × DataW H) → Nat
  | [] => 0
  | x :: r => uptoBulkEntry x + uptoBulkEntries r
def uptoBulkEntry {H : Type} : Lit × DataW H → Nat
  | (.string bytes, d) => bytes.length + uptoBulk d + 1
  | (_, d) => uptoBulk d + 1
 end
def uptoSmall : (H : Type) → List (DataW H) → Bool := fun _ ds => decide (uptoBulkAll ds ≤ 1048576)
def OpenSpec.upto (s : _root_.Go.ChangeSpec) : _root_.Go.OpenSpec := { _root_.Go.OpenSpec.ofChange s with cond := some uptoSmall }

/-- 'merestonelaw09.GridAt', WHERE WHAT IT READS IS OF BULK AT MOST 1048576: true; the input reads as it did. -/
def gridAtUptoRow : OpenClaim := { program := "ytfdagmlfaklcbaa", sum := "3927dd9a8ed022efd83faee6b8fa742243de15ec6a28e2898b1f52f5b9b5ba9b", func := "merestone/merestonelaw09.GridAt", spec := "gridAt", apart := false, narrowed := true }
def GridAtUptoSaid : Prop := gridAtUptoRow.holds Try.pinned (OpenSpec.upto gridAtSpec)

/-- 'merestonelaw09.GridSteps', WHERE WHAT IT READS IS OF BULK AT MOST 1048576: true; the input reads as it did. -/
def gridStepsUptoRow : OpenClaim := { program := "ytfdagmlfaklcbaa", sum := "3927dd9a8ed022efd83faee6b8fa742243de15ec6a28e2898b1f52f5b9b5ba9b", func := "merestone/merestonelaw09.GridSteps", spec := "gridSteps", apart := false, narrowed := true }
def GridStepsUptoSaid : Prop := gridStepsUptoRow.holds Try.pinned (OpenSpec.upto gridStepsSpec)

/-- 'merestonelaw04.WindowHas', WHERE WHAT IT READS IS OF BULK AT MOST 1048576: true; the input reads as it did. -/
def windowHasUptoRow : OpenClaim := { program := "ytfdagmlfaklcbaa", sum := "3927dd9a8ed022efd83faee6b8fa742243de15ec6a28e2898b1f52f5b9b5ba9b", func := "merestone/merestonelaw04.WindowHas", spec := "windowHas", apart := false, narrowed := true }
def WindowHasUptoSaid : Prop := windowHasUptoRow.holds Try.pinned (OpenSpec.upto windowHasSpec)

/-- 'merestonelaw09.GridSpans', WHERE WHAT IT READS IS OF BULK AT MOST 1048576: true; the input reads as it did. -/
def gridSpansUptoRow : OpenClaim := { program := "ytfdagmlfaklcbaa", sum := "3927dd9a8ed022efd83faee6b8fa742243de15ec6a28e2898b1f52f5b9b5ba9b", func := "merestone/merestonelaw09.GridSpans", spec := "gridSpans", apart := false, narrowed := true }
def GridSpansUptoSaid : Prop := gridSpansUptoRow.holds Try.pinned (OpenSpec.upto gridSpansSpec)

/-- 'merestonelaw09.GridGrows', WHERE WHAT IT READS IS OF BULK AT MOST 1048576: true; the input reads as it did. -/
def gridGrowsUptoRow : OpenClaim := { program := "ytfdagmlfaklcbaa", sum := "3927dd9a8ed022efd83faee6b8fa742243de15ec6a28e2898b1f52f5b9b5ba9b", func := "merestone/merestonelaw09.GridGrows", spec := "gridGrows", apart := false, narrowed := true }
def GridGrowsUptoSaid : Prop := gridGrowsUptoRow.holds Try.pinned (OpenSpec.upto gridGrowsSpec)

/-- 'merestonelaw04.WindowCuts', WHERE WHAT IT READS IS OF BULK AT MOST 1048576: true; the input reads as it did. -/
def windowCutsUptoRow : OpenClaim := { program := "ytfdagmlfaklcbaa", sum := "3927dd9a8ed022efd83faee6b8fa742243de15ec6a28e2898b1f52f5b9b5ba9b", func := "merestone/merestonelaw04.WindowCuts", spec := "windowCuts", apart := false, narrowed := true }
def WindowCutsUptoSaid : Prop := windowCutsUptoRow.holds Try.pinned (OpenSpec.upto windowCutsSpec)

end Rows
end Go.Proofs.Ytfdagmlfaklcbaa
