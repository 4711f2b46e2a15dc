/-
  No cell of these rows narrows 'for every input' (looked for: loops, veiled, ifaces, maps, wideKeys, modest, calm, conditions, laid).
  DERIVED. THE GIVEN ROWS OF THIS SEAT. 12 by the template 'for every input the law returns true; each argument reads behind the call as it read before'; 0 by the template 'total and deterministic' (their statements: YtcohioplkchojaaTotals.lean).
  GIVEN WITH THE SEED: the statements are not yours to turn. If you find one false, say at which input.
  Laid BY PROGRAM, IN A SANDBOX (cutbox-rows.mjs): the forced cells as the released guide's own fill.sh prints them over the translation c942424c69e9456d… (all of the seat's roots in one cut). By AI agents, Wed Nov 11 2026. No macro, syntax, notation, axiom, sorry.
-/
import Derived.Test.YtcohioplkchojaaChecked
import GoSem.Claim
import GoSem.ClaimJoined
import GoSem.ClaimMapViews
import Derived.JoinedTies
import Derived.KernelRfl
namespace Go.Proofs.Ytcohioplkchojaa
/- THE CELL 'sum', in the pinned program and in every row, IS THE sha256 OF THE DUMP (.gsa) THAT YtcohioplkchojaaProg.lean LOADS. Nothing in Lean hashes anything: it is a label: what it is worth is what the hold of that sum in a sandbox is worth. -/
noncomputable def Try.pinned : Pinned := { name := "ytcohioplkchojaa", sum := "c942424c69e9456d6e8e6cf73e4482954af53db7b7275b644e2e81cd04db4476", checked := Try.checked }
namespace Rows
def none {H : Type} : Left H := { results := [], args := [] }

/-- 'merestonelaw03.RingChecks': WHATEVER THE INPUT: true; the input reads as it did. -/
def ringChecksSpec : ChangeSpec := { name := "ringChecks", fn := fun _ => fun
  | [d] => { results := [.lit (.bool true)], args := [d] }
  | _ => none }
def ringChecksRow : OpenClaim := { program := "ytcohioplkchojaa", sum := "c942424c69e9456d6e8e6cf73e4482954af53db7b7275b644e2e81cd04db4476", func := "merestone/merestonelaw03.RingChecks", spec := "ringChecks", inPlace := ["math/bits.Add64"], unfollowed := true, recurses := true, apart := false }
def RingChecksSaid : Prop := ringChecksRow.holds Try.pinned (OpenSpec.ofChange ringChecksSpec)

/-- ITS FALSE NEIGHBOUR: 'it returns false'. Refute it at one input. -/
def ringChecksWrong : ChangeSpec := { name := "ringChecks", fn := fun _ => fun
  | [d] => { results := [.lit (.bool false)], args := [d] }
  | _ => none }
def RingChecksWrongFalsely : Prop := ringChecksRow.holds Try.pinned (OpenSpec.ofChange ringChecksWrong)

/-- 'merestonelaw03.RingSides': WHATEVER THE INPUT: true; the input reads as it did. -/
def ringSidesSpec : ChangeSpec := { name := "ringSides", fn := fun _ => fun
  | [d1, d2] => { results := [.lit (.bool true)], args := [d1, d2] }
  | _ => none }
def ringSidesRow : OpenClaim := { program := "ytcohioplkchojaa", sum := "c942424c69e9456d6e8e6cf73e4482954af53db7b7275b644e2e81cd04db4476", func := "merestone/merestonelaw03.RingSides", spec := "ringSides", inPlace := ["math/bits.Add64"], unfollowed := true, recurses := true, apart := false }
def RingSidesSaid : Prop := ringSidesRow.holds Try.pinned (OpenSpec.ofChange ringSidesSpec)

/-- ITS FALSE NEIGHBOUR: 'it returns false'. Refute it at one input. -/
def ringSidesWrong : ChangeSpec := { name := "ringSides", fn := fun _ => fun
  | [d1, d2] => { results := [.lit (.bool false)], args := [d1, d2] }
  | _ => none }
def RingSidesWrongFalsely : Prop := ringSidesRow.holds Try.pinned (OpenSpec.ofChange ringSidesWrong)

/-- 'merestonelaw03.RingMarks': WHATEVER THE INPUT: true; the input reads as it did. -/
def ringMarksSpec : ChangeSpec := { name := "ringMarks", fn := fun _ => fun
  | [d1, d2, d3, d4] => { results := [.lit (.bool true)], args := [d1, d2, d3, d4] }
  | _ => none }
def ringMarksRow : OpenClaim := { program := "ytcohioplkchojaa", sum := "c942424c69e9456d6e8e6cf73e4482954af53db7b7275b644e2e81cd04db4476", func := "merestone/merestonelaw03.RingMarks", spec := "ringMarks", inPlace := ["math/bits.Add64"], unfollowed := true, recurses := true, apart := false }
def RingMarksSaid : Prop := ringMarksRow.holds Try.pinned (OpenSpec.ofChange ringMarksSpec)

/-- ITS FALSE NEIGHBOUR: 'it returns false'. Refute it at one input. -/
def ringMarksWrong : ChangeSpec := { name := "ringMarks", fn := fun _ => fun
  | [d1, d2, d3, d4] => { results := [.lit (.bool false)], args := [d1, d2, d3, d4] }
  | _ => none }
def RingMarksWrongFalsely : Prop := ringMarksRow.holds Try.pinned (OpenSpec.ofChange ringMarksWrong)

/-- 'merestonelaw03.RingShifts': WHATEVER THE INPUT: true; the input reads as it did. -/
def ringShiftsSpec : ChangeSpec := { name := "ringShifts", fn := fun _ => fun
  | [d1, d2, d3, d4] => { results := [.lit (.bool true)], args := [d1, d2, d3, d4] }
  | _ => none }
def ringShiftsRow : OpenClaim := { program := "ytcohioplkchojaa", sum := "c942424c69e9456d6e8e6cf73e4482954af53db7b7275b644e2e81cd04db4476", func := "merestone/merestonelaw03.RingShifts", spec := "ringShifts", inPlace := ["math/bits.Add64"], unfollowed := true, recurses := true, apart := false }
def RingShiftsSaid : Prop := ringShiftsRow.holds Try.pinned (OpenSpec.ofChange ringShiftsSpec)

/-- ITS FALSE NEIGHBOUR: 'it returns false'. Refute it at one input. -/
def ringShiftsWrong : ChangeSpec := { name := "ringShifts", fn := fun _ => fun
  | [d1, d2, d3, d4] => { results := [.lit (.bool false)], args := [d1, d2, d3, d4] }
  | _ => none }
def RingShiftsWrongFalsely : Prop := ringShiftsRow.holds Try.pinned (OpenSpec.ofChange ringShiftsWrong)

/-- 'merestonelaw09.GridCells': WHATEVER THE INPUT: true; the input reads as it did. -/
def gridCellsSpec : ChangeSpec := { name := "gridCells", fn := fun _ => fun
  | [d] => { results := [.lit (.bool true)], args := [d] }
  | _ => none }
def gridCellsRow : OpenClaim := { program := "ytcohioplkchojaa", sum := "c942424c69e9456d6e8e6cf73e4482954af53db7b7275b644e2e81cd04db4476", func := "merestone/merestonelaw09.GridCells", spec := "gridCells", inPlace := ["math/bits.Add64"], unfollowed := true, recurses := true, apart := false }
def GridCellsSaid : Prop := gridCellsRow.holds Try.pinned (OpenSpec.ofChange gridCellsSpec)

/-- ITS FALSE NEIGHBOUR: 'it returns false'. Refute it at one input. -/
def gridCellsWrong : ChangeSpec := { name := "gridCells", fn := fun _ => fun
  | [d] => { results := [.lit (.bool false)], args := [d] }
  | _ => none }
def GridCellsWrongFalsely : Prop := gridCellsRow.holds Try.pinned (OpenSpec.ofChange gridCellsWrong)

/-- 'merestonelaw09.GridHas': WHATEVER THE INPUT: true; the input reads as it did. -/
def gridHasSpec : ChangeSpec := { name := "gridHas", fn := fun _ => fun
  | [d1, d2, d3] => { results := [.lit (.bool true)], args := [d1, d2, d3] }
  | _ => none }
def gridHasRow : OpenClaim := { program := "ytcohioplkchojaa", sum := "c942424c69e9456d6e8e6cf73e4482954af53db7b7275b644e2e81cd04db4476", func := "merestone/merestonelaw09.GridHas", spec := "gridHas", inPlace := ["math/bits.Add64"], unfollowed := true, recurses := true, apart := false }
def GridHasSaid : Prop := gridHasRow.holds Try.pinned (OpenSpec.ofChange gridHasSpec)

/-- ITS FALSE NEIGHBOUR: 'it returns false'. Refute it at one input. -/
def gridHasWrong : ChangeSpec := { name := "gridHas", fn := fun _ => fun
  | [d1, d2, d3] => { results := [.lit (.bool false)], args := [d1, d2, d3] }
  | _ => none }
def GridHasWrongFalsely : Prop := gridHasRow.holds Try.pinned (OpenSpec.ofChange gridHasWrong)

/-- 'merestonelaw03.RingBegins': WHATEVER THE INPUT: true; the input reads as it did. -/
def ringBeginsSpec : ChangeSpec := { name := "ringBegins", fn := fun _ => fun
  | [d1, d2, d3] => { results := [.lit (.bool true)], args := [d1, d2, d3] }
  | _ => none }
def ringBeginsRow : OpenClaim := { program := "ytcohioplkchojaa", sum := "c942424c69e9456d6e8e6cf73e4482954af53db7b7275b644e2e81cd04db4476", func := "merestone/merestonelaw03.RingBegins", spec := "ringBegins", inPlace := ["math/bits.Add64"], unfollowed := true, recurses := true, apart := false }
def RingBeginsSaid : Prop := ringBeginsRow.holds Try.pinned (OpenSpec.ofChange ringBeginsSpec)

/-- ITS FALSE NEIGHBOUR: 'it returns false'. Refute it at one input. -/
def ringBeginsWrong : ChangeSpec := { name := "ringBegins", fn := fun _ => fun
  | [d1, d2, d3] => { results := [.lit (.bool false)], args := [d1, d2, d3] }
  | _ => none }
def RingBeginsWrongFalsely : Prop := ringBeginsRow.holds Try.pinned (OpenSpec.ofChange ringBeginsWrong)

/-- 'merestonelaw04.WindowMeets': WHATEVER THE INPUT: true; the input reads as it did. -/
def windowMeetsSpec : ChangeSpec := { name := "windowMeets", fn := fun _ => fun
  | [d1, d2] => { results := [.lit (.bool true)], args := [d1, d2] }
  | _ => none }
def windowMeetsRow : OpenClaim := { program := "ytcohioplkchojaa", sum := "c942424c69e9456d6e8e6cf73e4482954af53db7b7275b644e2e81cd04db4476", func := "merestone/merestonelaw04.WindowMeets", spec := "windowMeets", inPlace := ["math/bits.Add64"], unfollowed := true, recurses := true, apart := false }
def WindowMeetsSaid : Prop := windowMeetsRow.holds Try.pinned (OpenSpec.ofChange windowMeetsSpec)

/-- ITS FALSE NEIGHBOUR: 'it returns false'. Refute it at one input. -/
def windowMeetsWrong : ChangeSpec := { name := "windowMeets", fn := fun _ => fun
  | [d1, d2] => { results := [.lit (.bool false)], args := [d1, d2] }
  | _ => none }
def WindowMeetsWrongFalsely : Prop := windowMeetsRow.holds Try.pinned (OpenSpec.ofChange windowMeetsWrong)

/-- 'merestonelaw04.WindowPoints': WHATEVER THE INPUT: true; the input reads as it did. -/
def windowPointsSpec : ChangeSpec := { name := "windowPoints", fn := fun _ => fun
  | [d1, d2, d3] => { results := [.lit (.bool true)], args := [d1, d2, d3] }
  | _ => none }
def windowPointsRow : OpenClaim := { program := "ytcohioplkchojaa", sum := "c942424c69e9456d6e8e6cf73e4482954af53db7b7275b644e2e81cd04db4476", func := "merestone/merestonelaw04.WindowPoints", spec := "windowPoints", inPlace := ["math/bits.Add64"], unfollowed := true, recurses := true, apart := false }
def WindowPointsSaid : Prop := windowPointsRow.holds Try.pinned (OpenSpec.ofChange windowPointsSpec)

/-- ITS FALSE NEIGHBOUR: 'it returns false'. Refute it at one input. -/
def windowPointsWrong : ChangeSpec := { name := "windowPoints", fn := fun _ => fun
  | [d1, d2, d3] => { results := [.lit (.bool false)], args := [d1, d2, d3] }
  | _ => none }
def WindowPointsWrongFalsely : Prop := windowPointsRow.holds Try.pinned (OpenSpec.ofChange windowPointsWrong)

/-- 'merestonelaw04.WindowGrows': WHATEVER THE INPUT: true; the input reads as it did. -/
def windowGrowsSpec : ChangeSpec := { name := "windowGrows", fn := fun _ => fun
  | [d1, d2, d3, d4, d5] => { results := [.lit (.bool true)], args := [d1, d2, d3, d4, d5] }
  | _ => none }
def windowGrowsRow : OpenClaim := { program := "ytcohioplkchojaa", sum := "c942424c69e9456d6e8e6cf73e4482954af53db7b7275b644e2e81cd04db4476", func := "merestone/merestonelaw04.WindowGrows", spec := "windowGrows", inPlace := ["math/bits.Add64"], unfollowed := true, recurses := true, apart := false }
def WindowGrowsSaid : Prop := windowGrowsRow.holds Try.pinned (OpenSpec.ofChange windowGrowsSpec)

/-- ITS FALSE NEIGHBOUR: 'it returns false'. Refute it at one input. -/
def windowGrowsWrong : ChangeSpec := { name := "windowGrows", fn := fun _ => fun
  | [d1, d2, d3, d4, d5] => { results := [.lit (.bool false)], args := [d1, d2, d3, d4, d5] }
  | _ => none }
def WindowGrowsWrongFalsely : Prop := windowGrowsRow.holds Try.pinned (OpenSpec.ofChange windowGrowsWrong)

/-- 'merestonelaw04.WindowParts': WHATEVER THE INPUT: true; the input reads as it did. -/
def windowPartsSpec : ChangeSpec := { name := "windowParts", fn := fun _ => fun
  | [d1, d2, d3, d4, d5] => { results := [.lit (.bool true)], args := [d1, d2, d3, d4, d5] }
  | _ => none }
def windowPartsRow : OpenClaim := { program := "ytcohioplkchojaa", sum := "c942424c69e9456d6e8e6cf73e4482954af53db7b7275b644e2e81cd04db4476", func := "merestone/merestonelaw04.WindowParts", spec := "windowParts", inPlace := ["math/bits.Add64"], unfollowed := true, recurses := true, apart := false }
def WindowPartsSaid : Prop := windowPartsRow.holds Try.pinned (OpenSpec.ofChange windowPartsSpec)

/-- ITS FALSE NEIGHBOUR: 'it returns false'. Refute it at one input. -/
def windowPartsWrong : ChangeSpec := { name := "windowParts", fn := fun _ => fun
  | [d1, d2, d3, d4, d5] => { results := [.lit (.bool false)], args := [d1, d2, d3, d4, d5] }
  | _ => none }
def WindowPartsWrongFalsely : Prop := windowPartsRow.holds Try.pinned (OpenSpec.ofChange windowPartsWrong)

/-- 'merestonelaw03.RingNorms': WHATEVER THE INPUT: true; the input reads as it did. -/
def ringNormsSpec : ChangeSpec := { name := "ringNorms", fn := fun _ => fun
  | [d] => { results := [.lit (.bool true)], args := [d] }
  | _ => none }
def ringNormsRow : OpenClaim := { program := "ytcohioplkchojaa", sum := "c942424c69e9456d6e8e6cf73e4482954af53db7b7275b644e2e81cd04db4476", func := "merestone/merestonelaw03.RingNorms", spec := "ringNorms", inPlace := ["math/bits.Add64"], unfollowed := true, recurses := true, apart := false }
def RingNormsSaid : Prop := ringNormsRow.holds Try.pinned (OpenSpec.ofChange ringNormsSpec)

/-- ITS FALSE NEIGHBOUR: 'it returns false'. Refute it at one input. -/
def ringNormsWrong : ChangeSpec := { name := "ringNorms", fn := fun _ => fun
  | [d] => { results := [.lit (.bool false)], args := [d] }
  | _ => none }
def RingNormsWrongFalsely : Prop := ringNormsRow.holds Try.pinned (OpenSpec.ofChange ringNormsWrong)

/- THE SECOND FORM. 'bulk': how many values and letters a reading holds, each counted each time it is reached (what is shared counts as often as it is met; a slice's spare places count too). A statement '..UptoSaid' is the law's where the arguments, and the package variables that the reading takes, are together of bulk at most 1048576: NARROWER than '..Said'. Prove '..Said' where nothing that the law and all that it calls make is longer than what came in: it says more and counts as full. Else prove '..UptoSaid'. A law counts once. -/
mutual
def uptoBulk {H : Type} : DataW H → Nat
  | .lit (.string bytes) => bytes.length + 1
  | .lit _ => 1
  | .nil => 1
  | .ptr d => uptoBulk d + 1
  | .slice elems spare => uptoBulkAll elems + uptoBulkAll spare + 1
  | .agg parts => uptoBulkAll parts + 1
  | .iface _ d => uptoBulk d + 1
  | .map entries => uptoBulkEntries entries + 1
  | .held _ => 1
def uptoBulkAll {H : Type} : List (DataW H) → Nat
  | [] => 0
  | d :: r => uptoBulk d + uptoBulkAll r
def uptoBulkEntries {H : Type} : List (Lit × DataW H) → Nat
  | [] => 0
  | x :: r => uptoBulkEntry x + uptoBulkEntries r
def uptoBulkEntry {H : Type} : Lit × DataW H → Nat
  | (.string bytes, d) => bytes.length + uptoBulk d + 1
  | (_, d) => uptoBulk d + 1
 end
def uptoSmall : (H : Type) → List (DataW H) → Bool := fun _ ds => decide (uptoBulkAll ds ≤ 1048576)
def OpenSpec.upto (s : _root_.Go.ChangeSpec) : _root_.Go.OpenSpec := { _root_.Go.OpenSpec.ofChange s with cond := some uptoSmall }

/-- 'merestonelaw03.RingChecks', WHERE WHAT IT READS IS OF BULK AT MOST 1048576: true; the input reads as it did. -/
def ringChecksUptoRow : OpenClaim := { program := "ytcohioplkchojaa", sum := "c942424c69e9456d6e8e6cf73e4482954af53db7b7275b644e2e81cd04db4476", func := "merestone/merestonelaw03.RingChecks", spec := "ringChecks", inPlace := ["math/bits.Add64"], unfollowed := true, recurses := true, apart := false, narrowed := true }
def RingChecksUptoSaid : Prop := ringChecksUptoRow.holds Try.pinned (OpenSpec.upto ringChecksSpec)

/-- 'merestonelaw03.RingSides', WHERE WHAT IT READS IS OF BULK AT MOST 1048576: true; the input reads as it did. -/
def ringSidesUptoRow : OpenClaim := { program := "ytcohioplkchojaa", sum := "c942424c69e9456d6e8e6cf73e4482954af53db7b7275b644e2e81cd04db4476", func := "merestone/merestonelaw03.RingSides", spec := "ringSides", inPlace := ["math/bits.Add64"], unfollowed := true, recurses := true, apart := false, narrowed := true }
def RingSidesUptoSaid : Prop := ringSidesUptoRow.holds Try.pinned (OpenSpec.upto ringSidesSpec)

/-- 'merestonelaw03.RingMarks', WHERE WHAT IT READS IS OF BULK AT MOST 1048576: true; the input reads as it did. -/
def ringMarksUptoRow : OpenClaim := { program := "ytcohioplkchojaa", sum := "c942424c69e9456d6e8e6cf73e4482954af53db7b7275b644e2e81cd04db4476", func := "merestone/merestonelaw03.RingMarks", spec := "ringMarks", inPlace := ["math/bits.Add64"], unfollowed := true, recurses := true, apart := false, narrowed := true }
def RingMarksUptoSaid : Prop := ringMarksUptoRow.holds Try.pinned (OpenSpec.upto ringMarksSpec)

/-- 'merestonelaw03.RingShifts', WHERE WHAT IT READS IS OF BULK AT MOST 1048576: true; the input reads as it did. -/
def ringShiftsUptoRow : OpenClaim := { program := "ytcohioplkchojaa", sum := "c942424c69e9456d6e8e6cf73e4482954af53db7b7275b644e2e81cd04db4476", func := "merestone/merestonelaw03.RingShifts", spec := "ringShifts", inPlace := ["math/bits.Add64"], unfollowed := true, recurses := true, apart := false, narrowed := true }
def RingShiftsUptoSaid : Prop := ringShiftsUptoRow.holds Try.pinned (OpenSpec.upto ringShiftsSpec)

/-- 'merestonelaw09.GridCells', WHERE WHAT IT READS IS OF BULK AT MOST 1048576: true; the input reads as it did. -/
def gridCellsUptoRow : OpenClaim := { program := "ytcohioplkchojaa", sum := "c942424c69e9456d6e8e6cf73e4482954af53db7b7275b644e2e81cd04db4476", func := "merestone/merestonelaw09.GridCells", spec := "gridCells", inPlace := ["math/bits.Add64"], unfollowed := true, recurses := true, apart := false, narrowed := true }
def GridCellsUptoSaid : Prop := gridCellsUptoRow.holds Try.pinned (OpenSpec.upto gridCellsSpec)

/-- 'merestonelaw09.GridHas', WHERE WHAT IT READS IS OF BULK AT MOST 1048576: true; the input reads as it did. -/
def gridHasUptoRow : OpenClaim := { program := "ytcohioplkchojaa", sum := "c942424c69e9456d6e8e6cf73e4482954af53db7b7275b644e2e81cd04db4476", func := "merestone/merestonelaw09.GridHas", spec := "gridHas", inPlace := ["math/bits.Add64"], unfollowed := true, recurses := true, apart := false, narrowed := true }
def GridHasUptoSaid : Prop := gridHasUptoRow.holds Try.pinned (OpenSpec.upto gridHasSpec)

/-- 'merestonelaw03.RingBegins', WHERE WHAT IT READS IS OF BULK AT MOST 1048576: true; the input reads as it did. -/
def ringBeginsUptoRow : OpenClaim := { program := "ytcohioplkchojaa", sum := "c942424c69e9456d6e8e6cf73e4482954af53db7b7275b644e2e81cd04db4476", func := "merestone/merestonelaw03.RingBegins", spec := "ringBegins", inPlace := ["math/bits.Add64"], unfollowed := true, recurses := true, apart := false, narrowed := true }
def RingBeginsUptoSaid : Prop := ringBeginsUptoRow.holds Try.pinned (OpenSpec.upto ringBeginsSpec)

/-- 'merestonelaw04.WindowMeets', WHERE WHAT IT READS IS OF BULK AT MOST 1048576: true; the input reads as it did. -/
def windowMeetsUptoRow : OpenClaim := { program := "ytcohioplkchojaa", sum := "c942424c69e9456d6e8e6cf73e4482954af53db7b7275b644e2e81cd04db4476", func := "merestone/merestonelaw04.WindowMeets", spec := "windowMeets", inPlace := ["math/bits.Add64"], unfollowed := true, recurses := true, apart := false, narrowed := true }
def WindowMeetsUptoSaid : Prop := windowMeetsUptoRow.holds Try.pinned (OpenSpec.upto windowMeetsSpec)

/-- 'merestonelaw04.WindowPoints', WHERE WHAT IT READS IS OF BULK AT MOST 1048576: true; the input reads as it did. -/
def windowPointsUptoRow : OpenClaim := { program := "ytcohioplkchojaa", sum := "c942424c69e9456d6e8e6cf73e4482954af53db7b7275b644e2e81cd04db4476", func := "merestone/merestonelaw04.WindowPoints", spec := "windowPoints", inPlace := ["math/bits.Add64"], unfollowed := true, recurses := true, apart := false, narrowed := true }
def WindowPointsUptoSaid : Prop := windowPointsUptoRow.holds Try.pinned (OpenSpec.upto windowPointsSpec)

/-- 'merestonelaw04.WindowGrows', WHERE WHAT IT READS IS OF BULK AT MOST 1048576: true; the input reads as it did. -/
def windowGrowsUptoRow : OpenClaim := { program := "ytcohioplkchojaa", sum := "c942424c69e9456d6e8e6cf73e4482954af53db7b7275b644e2e81cd04db4476", func := "merestone/merestonelaw04.WindowGrows", spec := "windowGrows", inPlace := ["math/bits.Add64"], unfollowed := true, recurses := true, apart := false, narrowed := true }
def WindowGrowsUptoSaid : Prop := windowGrowsUptoRow.holds Try.pinned (OpenSpec.upto windowGrowsSpec)

/-- 'merestonelaw04.WindowParts', WHERE WHAT IT READS IS OF BULK AT MOST 1048576: true; the input reads as it did. -/
def windowPartsUptoRow : OpenClaim := { program := "ytcohioplkchojaa", sum := "c942424c69e9456d6e8e6cf73e4482954af53db7b7275b644e2e81cd04db4476", func := "merestone/merestonelaw04.WindowParts", spec := "windowParts", inPlace := ["math/bits.Add64"], unfollowed := true, recurses := true, apart := false, narrowed := true }
def WindowPartsUptoSaid : Prop := windowPartsUptoRow.holds Try.pinned (OpenSpec.upto windowPartsSpec)

/-- 'merestonelaw03.RingNorms', WHERE WHAT IT READS IS OF BULK AT MOST 1048576: true; the input reads as it did. -/
def ringNormsUptoRow : OpenClaim := { program := "ytcohioplkchojaa", sum := "c942424c69e9456d6e8e6cf73e4482954af53db7b7275b644e2e81cd04db4476", func := "merestone/merestonelaw03.RingNorms", spec := "ringNorms", inPlace := ["math/bits.Add64"], unfollowed := true, recurses := true, apart := false, narrowed := true }
def RingNormsUptoSaid : Prop := ringNormsUptoRow.holds Try.pinned (OpenSpec.upto ringNormsSpec)

end Rows
end Go.Proofs.Ytcohioplkchojaa
