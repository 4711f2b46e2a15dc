/-
  No cell of these rows narrows 'for every input' (looked for: loops, veiled, ifaces, maps, wideKeys, modest, calm, conditions, laid).
  DERIVED. THE GIVEN ROWS OF THIS SEAT. 12 by the template 'for every input the law returns true; each argument reads behind the call as it read before'; 0 by the template 'total and deterministic' (their statements: YtglnklfhgdjccaaGreatTotals.lean).
  GIVEN WITH THE SEED: the statements are not yours to turn. If you find one false, say at which input.
  Laid BY PROGRAM, IN A SANDBOX (cutbox-rows.mjs): the forced cells as the released guide's own fill.sh prints them over the translation 238ac8c4ba5ba10f… (all of the seat's roots in one cut). By AI agents, Wed Nov 11 2026. No macro, syntax, notation, axiom, sorry.
-/
import Derived.Test.YtglnklfhgdjccaaGreatChecked
import GoSem.Claim
import GoSem.ClaimJoined
import GoSem.ClaimMapViews
import Derived.JoinedTies
import Derived.KernelRfl
namespace Go.Proofs.YtglnklfhgdjccaaGreat
/- THE CELL 'sum', in the pinned program and in every row, IS THE sha256 OF THE DUMP (.gsa) THAT YtglnklfhgdjccaaGreatProg.lean LOADS. Nothing in Lean hashes anything: it is a label: what it is worth is what the hold of that sum in a sandbox is worth. -/
noncomputable def Tryz.pinned : Pinned := { name := "ytglnklfhgdjccaagreat", sum := "238ac8c4ba5ba10f33410ecf7677a568356e749b2cb933f58fa17bbdb28bba18", checked := Tryz.checked }
namespace Rows
def none {H : Type} : Left H := { results := [], args := [] }

/-- 'merestonelaw05.PlanChecks': WHATEVER THE INPUT: true; the input reads as it did. -/
def planChecksSpec : ChangeSpec := { name := "planChecks", fn := fun _ => fun
  | [d] => { results := [.lit (.bool true)], args := [d] }
  | _ => none }
def planChecksRow : OpenClaim := { program := "ytglnklfhgdjccaagreat", sum := "238ac8c4ba5ba10f33410ecf7677a568356e749b2cb933f58fa17bbdb28bba18", func := "merestone/merestonelaw05.PlanChecks", spec := "planChecks", inPlace := ["math/bits.Add64"], unfollowed := true, recurses := true, plainKeys := false, apart := false }
def PlanChecksSaid : Prop := planChecksRow.holds Tryz.pinned (OpenSpec.ofChange planChecksSpec)

/-- ITS FALSE NEIGHBOUR: 'it returns false'. Refute it at one input. -/
def planChecksWrong : ChangeSpec := { name := "planChecks", fn := fun _ => fun
  | [d] => { results := [.lit (.bool false)], args := [d] }
  | _ => none }
def PlanChecksWrongFalsely : Prop := planChecksRow.holds Tryz.pinned (OpenSpec.ofChange planChecksWrong)

/-- 'merestonelaw05.PlanBegins': WHATEVER THE INPUT: true; the input reads as it did. -/
def planBeginsSpec : ChangeSpec := { name := "planBegins", fn := fun _ => fun
  | [d1, d2, d3] => { results := [.lit (.bool true)], args := [d1, d2, d3] }
  | _ => none }
def planBeginsRow : OpenClaim := { program := "ytglnklfhgdjccaagreat", sum := "238ac8c4ba5ba10f33410ecf7677a568356e749b2cb933f58fa17bbdb28bba18", func := "merestone/merestonelaw05.PlanBegins", spec := "planBegins", inPlace := ["math/bits.Add64"], unfollowed := true, recurses := true, plainKeys := false, apart := false }
def PlanBeginsSaid : Prop := planBeginsRow.holds Tryz.pinned (OpenSpec.ofChange planBeginsSpec)

/-- ITS FALSE NEIGHBOUR: 'it returns false'. Refute it at one input. -/
def planBeginsWrong : ChangeSpec := { name := "planBegins", fn := fun _ => fun
  | [d1, d2, d3] => { results := [.lit (.bool false)], args := [d1, d2, d3] }
  | _ => none }
def PlanBeginsWrongFalsely : Prop := planBeginsRow.holds Tryz.pinned (OpenSpec.ofChange planBeginsWrong)

/-- 'merestonelaw05.PlanEdges': WHATEVER THE INPUT: true; the input reads as it did. -/
def planEdgesSpec : ChangeSpec := { name := "planEdges", fn := fun _ => fun
  | [d1, d2, d3] => { results := [.lit (.bool true)], args := [d1, d2, d3] }
  | _ => none }
def planEdgesRow : OpenClaim := { program := "ytglnklfhgdjccaagreat", sum := "238ac8c4ba5ba10f33410ecf7677a568356e749b2cb933f58fa17bbdb28bba18", func := "merestone/merestonelaw05.PlanEdges", spec := "planEdges", inPlace := ["math/bits.Add64"], unfollowed := true, recurses := true, plainKeys := false, apart := false }
def PlanEdgesSaid : Prop := planEdgesRow.holds Tryz.pinned (OpenSpec.ofChange planEdgesSpec)

/-- ITS FALSE NEIGHBOUR: 'it returns false'. Refute it at one input. -/
def planEdgesWrong : ChangeSpec := { name := "planEdges", fn := fun _ => fun
  | [d1, d2, d3] => { results := [.lit (.bool false)], args := [d1, d2, d3] }
  | _ => none }
def PlanEdgesWrongFalsely : Prop := planEdgesRow.holds Tryz.pinned (OpenSpec.ofChange planEdgesWrong)

/-- 'merestonelaw08.BendMarks': WHATEVER THE INPUT: true; the input reads as it did. -/
def bendMarksSpec : ChangeSpec := { name := "bendMarks", fn := fun _ => fun
  | [d1, d2] => { results := [.lit (.bool true)], args := [d1, d2] }
  | _ => none }
def bendMarksRow : OpenClaim := { program := "ytglnklfhgdjccaagreat", sum := "238ac8c4ba5ba10f33410ecf7677a568356e749b2cb933f58fa17bbdb28bba18", func := "merestone/merestonelaw08.BendMarks", spec := "bendMarks", inPlace := ["math/bits.Add64"], unfollowed := true, recurses := true, plainKeys := false, apart := false }
def BendMarksSaid : Prop := bendMarksRow.holds Tryz.pinned (OpenSpec.ofChange bendMarksSpec)

/-- ITS FALSE NEIGHBOUR: 'it returns false'. Refute it at one input. -/
def bendMarksWrong : ChangeSpec := { name := "bendMarks", fn := fun _ => fun
  | [d1, d2] => { results := [.lit (.bool false)], args := [d1, d2] }
  | _ => none }
def BendMarksWrongFalsely : Prop := bendMarksRow.holds Tryz.pinned (OpenSpec.ofChange bendMarksWrong)

/-- 'merestonelaw05.PlanFinds': WHATEVER THE INPUT: true; the input reads as it did. -/
def planFindsSpec : ChangeSpec := { name := "planFinds", fn := fun _ => fun
  | [d1, d2, d3, d4] => { results := [.lit (.bool true)], args := [d1, d2, d3, d4] }
  | _ => none }
def planFindsRow : OpenClaim := { program := "ytglnklfhgdjccaagreat", sum := "238ac8c4ba5ba10f33410ecf7677a568356e749b2cb933f58fa17bbdb28bba18", func := "merestone/merestonelaw05.PlanFinds", spec := "planFinds", inPlace := ["math/bits.Add64"], unfollowed := true, recurses := true, plainKeys := false, apart := false }
def PlanFindsSaid : Prop := planFindsRow.holds Tryz.pinned (OpenSpec.ofChange planFindsSpec)

/-- ITS FALSE NEIGHBOUR: 'it returns false'. Refute it at one input. -/
def planFindsWrong : ChangeSpec := { name := "planFinds", fn := fun _ => fun
  | [d1, d2, d3, d4] => { results := [.lit (.bool false)], args := [d1, d2, d3, d4] }
  | _ => none }
def PlanFindsWrongFalsely : Prop := planFindsRow.holds Tryz.pinned (OpenSpec.ofChange planFindsWrong)

/-- 'merestonelaw08.BendMoves': WHATEVER THE INPUT: true; the input reads as it did. -/
def bendMovesSpec : ChangeSpec := { name := "bendMoves", fn := fun _ => fun
  | [d1, d2, d3] => { results := [.lit (.bool true)], args := [d1, d2, d3] }
  | _ => none }
def bendMovesRow : OpenClaim := { program := "ytglnklfhgdjccaagreat", sum := "238ac8c4ba5ba10f33410ecf7677a568356e749b2cb933f58fa17bbdb28bba18", func := "merestone/merestonelaw08.BendMoves", spec := "bendMoves", inPlace := ["math/bits.Add64"], unfollowed := true, recurses := true, plainKeys := false, apart := false }
def BendMovesSaid : Prop := bendMovesRow.holds Tryz.pinned (OpenSpec.ofChange bendMovesSpec)

/-- ITS FALSE NEIGHBOUR: 'it returns false'. Refute it at one input. -/
def bendMovesWrong : ChangeSpec := { name := "bendMoves", fn := fun _ => fun
  | [d1, d2, d3] => { results := [.lit (.bool false)], args := [d1, d2, d3] }
  | _ => none }
def BendMovesWrongFalsely : Prop := bendMovesRow.holds Tryz.pinned (OpenSpec.ofChange bendMovesWrong)

/-- 'merestonelaw08.BendSums': WHATEVER THE INPUT: true; the input reads as it did. -/
def bendSumsSpec : ChangeSpec := { name := "bendSums", fn := fun _ => fun
  | [d1, d2, d3] => { results := [.lit (.bool true)], args := [d1, d2, d3] }
  | _ => none }
def bendSumsRow : OpenClaim := { program := "ytglnklfhgdjccaagreat", sum := "238ac8c4ba5ba10f33410ecf7677a568356e749b2cb933f58fa17bbdb28bba18", func := "merestone/merestonelaw08.BendSums", spec := "bendSums", inPlace := ["math/bits.Add64"], unfollowed := true, recurses := true, plainKeys := false, apart := false }
def BendSumsSaid : Prop := bendSumsRow.holds Tryz.pinned (OpenSpec.ofChange bendSumsSpec)

/-- ITS FALSE NEIGHBOUR: 'it returns false'. Refute it at one input. -/
def bendSumsWrong : ChangeSpec := { name := "bendSums", fn := fun _ => fun
  | [d1, d2, d3] => { results := [.lit (.bool false)], args := [d1, d2, d3] }
  | _ => none }
def BendSumsWrongFalsely : Prop := bendSumsRow.holds Tryz.pinned (OpenSpec.ofChange bendSumsWrong)

/-- 'merestonelaw05.PlanCovers': WHATEVER THE INPUT: true; the input reads as it did. -/
def planCoversSpec : ChangeSpec := { name := "planCovers", fn := fun _ => fun
  | [d1, d2, d3, d4] => { results := [.lit (.bool true)], args := [d1, d2, d3, d4] }
  | _ => none }
def planCoversRow : OpenClaim := { program := "ytglnklfhgdjccaagreat", sum := "238ac8c4ba5ba10f33410ecf7677a568356e749b2cb933f58fa17bbdb28bba18", func := "merestone/merestonelaw05.PlanCovers", spec := "planCovers", inPlace := ["math/bits.Add64", "math/bits.Sub64"], unfollowed := true, recurses := true, plainKeys := false, apart := false }
def PlanCoversSaid : Prop := planCoversRow.holds Tryz.pinned (OpenSpec.ofChange planCoversSpec)

/-- ITS FALSE NEIGHBOUR: 'it returns false'. Refute it at one input. -/
def planCoversWrong : ChangeSpec := { name := "planCovers", fn := fun _ => fun
  | [d1, d2, d3, d4] => { results := [.lit (.bool false)], args := [d1, d2, d3, d4] }
  | _ => none }
def PlanCoversWrongFalsely : Prop := planCoversRow.holds Tryz.pinned (OpenSpec.ofChange planCoversWrong)

/-- 'merestonelaw05.PlanTiles': WHATEVER THE INPUT: true; the input reads as it did. -/
def planTilesSpec : ChangeSpec := { name := "planTiles", fn := fun _ => fun
  | [d1, d2, d3, d4] => { results := [.lit (.bool true)], args := [d1, d2, d3, d4] }
  | _ => none }
def planTilesRow : OpenClaim := { program := "ytglnklfhgdjccaagreat", sum := "238ac8c4ba5ba10f33410ecf7677a568356e749b2cb933f58fa17bbdb28bba18", func := "merestone/merestonelaw05.PlanTiles", spec := "planTiles", inPlace := ["math/bits.Add64", "math/bits.Sub64"], unfollowed := true, recurses := true, plainKeys := false, apart := false }
def PlanTilesSaid : Prop := planTilesRow.holds Tryz.pinned (OpenSpec.ofChange planTilesSpec)

/-- ITS FALSE NEIGHBOUR: 'it returns false'. Refute it at one input. -/
def planTilesWrong : ChangeSpec := { name := "planTiles", fn := fun _ => fun
  | [d1, d2, d3, d4] => { results := [.lit (.bool false)], args := [d1, d2, d3, d4] }
  | _ => none }
def PlanTilesWrongFalsely : Prop := planTilesRow.holds Tryz.pinned (OpenSpec.ofChange planTilesWrong)

/-- 'merestonelaw08.BendClears': WHATEVER THE INPUT: true; the input reads as it did. -/
def bendClearsSpec : ChangeSpec := { name := "bendClears", fn := fun _ => fun
  | [d1, d2] => { results := [.lit (.bool true)], args := [d1, d2] }
  | _ => none }
def bendClearsRow : OpenClaim := { program := "ytglnklfhgdjccaagreat", sum := "238ac8c4ba5ba10f33410ecf7677a568356e749b2cb933f58fa17bbdb28bba18", func := "merestone/merestonelaw08.BendClears", spec := "bendClears", inPlace := ["math/bits.Add64"], unfollowed := true, recurses := true, plainKeys := false, apart := false }
def BendClearsSaid : Prop := bendClearsRow.holds Tryz.pinned (OpenSpec.ofChange bendClearsSpec)

/-- ITS FALSE NEIGHBOUR: 'it returns false'. Refute it at one input. -/
def bendClearsWrong : ChangeSpec := { name := "bendClears", fn := fun _ => fun
  | [d1, d2] => { results := [.lit (.bool false)], args := [d1, d2] }
  | _ => none }
def BendClearsWrongFalsely : Prop := bendClearsRow.holds Tryz.pinned (OpenSpec.ofChange bendClearsWrong)

/-- 'merestonelaw08.BendSame': WHATEVER THE INPUT: true; the input reads as it did. -/
def bendSameSpec : ChangeSpec := { name := "bendSame", fn := fun _ => fun
  | [d1, d2, d3] => { results := [.lit (.bool true)], args := [d1, d2, d3] }
  | _ => none }
def bendSameRow : OpenClaim := { program := "ytglnklfhgdjccaagreat", sum := "238ac8c4ba5ba10f33410ecf7677a568356e749b2cb933f58fa17bbdb28bba18", func := "merestone/merestonelaw08.BendSame", spec := "bendSame", inPlace := ["math/bits.Add64"], unfollowed := true, recurses := true, plainKeys := false, apart := false }
def BendSameSaid : Prop := bendSameRow.holds Tryz.pinned (OpenSpec.ofChange bendSameSpec)

/-- ITS FALSE NEIGHBOUR: 'it returns false'. Refute it at one input. -/
def bendSameWrong : ChangeSpec := { name := "bendSame", fn := fun _ => fun
  | [d1, d2, d3] => { results := [.lit (.bool false)], args := [d1, d2, d3] }
  | _ => none }
def BendSameWrongFalsely : Prop := bendSameRow.holds Tryz.pinned (OpenSpec.ofChange bendSameWrong)

/-- 'merestonelaw08.BendBack': WHATEVER THE INPUT: true; the input reads as it did. -/
def bendBackSpec : ChangeSpec := { name := "bendBack", fn := fun _ => fun
  | [d1, d2, d3] => { results := [.lit (.bool true)], args := [d1, d2, d3] }
  | _ => none }
def bendBackRow : OpenClaim := { program := "ytglnklfhgdjccaagreat", sum := "238ac8c4ba5ba10f33410ecf7677a568356e749b2cb933f58fa17bbdb28bba18", func := "merestone/merestonelaw08.BendBack", spec := "bendBack", inPlace := ["math/bits.Add64"], unfollowed := true, recurses := true, plainKeys := false, apart := false }
def BendBackSaid : Prop := bendBackRow.holds Tryz.pinned (OpenSpec.ofChange bendBackSpec)

/-- ITS FALSE NEIGHBOUR: 'it returns false'. Refute it at one input. -/
def bendBackWrong : ChangeSpec := { name := "bendBack", fn := fun _ => fun
  | [d1, d2, d3] => { results := [.lit (.bool false)], args := [d1, d2, d3] }
  | _ => none }
def BendBackWrongFalsely : Prop := bendBackRow.holds Tryz.pinned (OpenSpec.ofChange bendBackWrong)

/- THE SECOND FORM. 'bulk': how many values and letters a reading holds, each counted each time it is reached (what is shared counts as often as it is met; a slice's spare places count too). A statement '..UptoSaid' is the law's where the arguments, and the package variables that the reading takes, are together of bulk at most 1048576: NARROWER than '..Said'. Prove '..Said' where nothing that the law and all that it calls make is longer than what came in: it says more and counts as full. Else prove '..UptoSaid'. A law counts once. -/
mutual
def uptoBulk {H : Type} : DataW H → Nat
  | .lit (.string bytes) => bytes.length + 1
  | .lit _ => 1
  | .nil => 1
  | .ptr d => uptoBulk d + 1
  | .slice elems spare => uptoBulkAll elems + uptoBulkAll spare + 1
  | .agg parts => uptoBulkAll parts + 1
  | .iface _ d => uptoBulk d + 1
  | .map entries => uptoBulkEntries entries + 1
  | .held _ => 1
def uptoBulkAll {H : Type} : List (DataW H) → Nat
  | [] => 0
  | d :: r => uptoBulk d + uptoBulkAll r
def uptoBulkEntries {H : Type} : List (Lit × DataW H) → Nat
  | [] => 0
  | x :: r => uptoBulkEntry x + uptoBulkEntries r
def uptoBulkEntry {H : Type} : Lit × DataW H → Nat
  | (.string bytes, d) => bytes.length + uptoBulk d + 1
  | (_, d) => uptoBulk d + 1
 end
def uptoSmall : (H : Type) → List (DataW H) → Bool := fun _ ds => decide (uptoBulkAll ds ≤ 1048576)
def OpenSpec.upto (s : _root_.Go.ChangeSpec) : _root_.Go.OpenSpec := { _root_.Go.OpenSpec.ofChange s with cond := some uptoSmall }

/-- 'merestonelaw05.PlanChecks', WHERE WHAT IT READS IS OF BULK AT MOST 1048576: true; the input reads as it did. -/
def planChecksUptoRow : OpenClaim := { program := "ytglnklfhgdjccaagreat", sum := "238ac8c4ba5ba10f33410ecf7677a568356e749b2cb933f58fa17bbdb28bba18", func := "merestone/merestonelaw05.PlanChecks", spec := "planChecks", inPlace := ["math/bits.Add64"], unfollowed := true, recurses := true, plainKeys := false, apart := false, narrowed := true }
def PlanChecksUptoSaid : Prop := planChecksUptoRow.holds Tryz.pinned (OpenSpec.upto planChecksSpec)

/-- 'merestonelaw05.PlanBegins', WHERE WHAT IT READS IS OF BULK AT MOST 1048576: true; the input reads as it did. -/
def planBeginsUptoRow : OpenClaim := { program := "ytglnklfhgdjccaagreat", sum := "238ac8c4ba5ba10f33410ecf7677a568356e749b2cb933f58fa17bbdb28bba18", func := "merestone/merestonelaw05.PlanBegins", spec := "planBegins", inPlace := ["math/bits.Add64"], unfollowed := true, recurses := true, plainKeys := false, apart := false, narrowed := true }
def PlanBeginsUptoSaid : Prop := planBeginsUptoRow.holds Tryz.pinned (OpenSpec.upto planBeginsSpec)

/-- 'merestonelaw05.PlanEdges', WHERE WHAT IT READS IS OF BULK AT MOST 1048576: true; the input reads as it did. -/
def planEdgesUptoRow : OpenClaim := { program := "ytglnklfhgdjccaagreat", sum := "238ac8c4ba5ba10f33410ecf7677a568356e749b2cb933f58fa17bbdb28bba18", func := "merestone/merestonelaw05.PlanEdges", spec := "planEdges", inPlace := ["math/bits.Add64"], unfollowed := true, recurses := true, plainKeys := false, apart := false, narrowed := true }
def PlanEdgesUptoSaid : Prop := planEdgesUptoRow.holds Tryz.pinned (OpenSpec.upto planEdgesSpec)

/-- 'merestonelaw08.BendMarks', WHERE WHAT IT READS IS OF BULK AT MOST 1048576: true; the input reads as it did. -/
def bendMarksUptoRow : OpenClaim := { program := "ytglnklfhgdjccaagreat", sum := "238ac8c4ba5ba10f33410ecf7677a568356e749b2cb933f58fa17bbdb28bba18", func := "merestone/merestonelaw08.BendMarks", spec := "bendMarks", inPlace := ["math/bits.Add64"], unfollowed := true, recurses := true, plainKeys := false, apart := false, narrowed := true }
def BendMarksUptoSaid : Prop := bendMarksUptoRow.holds Tryz.pinned (OpenSpec.upto bendMarksSpec)

/-- 'merestonelaw05.PlanFinds', WHERE WHAT IT READS IS OF BULK AT MOST 1048576: true; the input reads as it did. -/
def planFindsUptoRow : OpenClaim := { program := "ytglnklfhgdjccaagreat", sum := "238ac8c4ba5ba10f33410ecf7677a568356e749b2cb933f58fa17bbdb28bba18", func := "merestone/merestonelaw05.PlanFinds", spec := "planFinds", inPlace := ["math/bits.Add64"], unfollowed := true, recurses := true, plainKeys := false, apart := false, narrowed := true }
def PlanFindsUptoSaid : Prop := planFindsUptoRow.holds Tryz.pinned (OpenSpec.upto planFindsSpec)

/-- 'merestonelaw08.BendMoves', WHERE WHAT IT READS IS OF BULK AT MOST 1048576: true; the input reads as it did. -/
def bendMovesUptoRow : OpenClaim := { program := "ytglnklfhgdjccaagreat", sum := "238ac8c4ba5ba10f33410ecf7677a568356e749b2cb933f58fa17bbdb28bba18", func := "merestone/merestonelaw08.BendMoves", spec := "bendMoves", inPlace := ["math/bits.Add64"], unfollowed := true, recurses := true, plainKeys := false, apart := false, narrowed := true }
def BendMovesUptoSaid : Prop := bendMovesUptoRow.holds Tryz.pinned (OpenSpec.upto bendMovesSpec)

/-- 'merestonelaw08.BendSums', WHERE WHAT IT READS IS OF BULK AT MOST 1048576: true; the input reads as it did. -/
def bendSumsUptoRow : OpenClaim := { program := "ytglnklfhgdjccaagreat", sum := "238ac8c4ba5ba10f33410ecf7677a568356e749b2cb933f58fa17bbdb28bba18", func := "merestone/merestonelaw08.BendSums", spec := "bendSums", inPlace := ["math/bits.Add64"], unfollowed := true, recurses := true, plainKeys := false, apart := false, narrowed := true }
def BendSumsUptoSaid : Prop := bendSumsUptoRow.holds Tryz.pinned (OpenSpec.upto bendSumsSpec)

/-- 'merestonelaw05.PlanCovers', WHERE WHAT IT READS IS OF BULK AT MOST 1048576: true; the input reads as it did. -/
def planCoversUptoRow : OpenClaim := { program := "ytglnklfhgdjccaagreat", sum := "238ac8c4ba5ba10f33410ecf7677a568356e749b2cb933f58fa17bbdb28bba18", func := "merestone/merestonelaw05.PlanCovers", spec := "planCovers", inPlace := ["math/bits.Add64", "math/bits.Sub64"], unfollowed := true, recurses := true, plainKeys := false, apart := false, narrowed := true }
def PlanCoversUptoSaid : Prop := planCoversUptoRow.holds Tryz.pinned (OpenSpec.upto planCoversSpec)

/-- 'merestonelaw05.PlanTiles', WHERE WHAT IT READS IS OF BULK AT MOST 1048576: true; the input reads as it did. -/
def planTilesUptoRow : OpenClaim := { program := "ytglnklfhgdjccaagreat", sum := "238ac8c4ba5ba10f33410ecf7677a568356e749b2cb933f58fa17bbdb28bba18", func := "merestone/merestonelaw05.PlanTiles", spec := "planTiles", inPlace := ["math/bits.Add64", "math/bits.Sub64"], unfollowed := true, recurses := true, plainKeys := false, apart := false, narrowed := true }
def PlanTilesUptoSaid : Prop := planTilesUptoRow.holds Tryz.pinned (OpenSpec.upto planTilesSpec)

/-- 'merestonelaw08.BendClears', WHERE WHAT IT READS IS OF BULK AT MOST 1048576: true; the input reads as it did. -/
def bendClearsUptoRow : OpenClaim := { program := "ytglnklfhgdjccaagreat", sum := "238ac8c4ba5ba10f33410ecf7677a568356e749b2cb933f58fa17bbdb28bba18", func := "merestone/merestonelaw08.BendClears", spec := "bendClears", inPlace := ["math/bits.Add64"], unfollowed := true, recurses := true, plainKeys := false, apart := false, narrowed := true }
def BendClearsUptoSaid : Prop := bendClearsUptoRow.holds Tryz.pinned (OpenSpec.upto bendClearsSpec)

/-- 'merestonelaw08.BendSame', WHERE WHAT IT READS IS OF BULK AT MOST 1048576: true; the input reads as it did. -/
def bendSameUptoRow : OpenClaim := { program := "ytglnklfhgdjccaagreat", sum := "238ac8c4ba5ba10f33410ecf7677a568356e749b2cb933f58fa17bbdb28bba18", func := "merestone/merestonelaw08.BendSame", spec := "bendSame", inPlace := ["math/bits.Add64"], unfollowed := true, recurses := true, plainKeys := false, apart := false, narrowed := true }
def BendSameUptoSaid : Prop := bendSameUptoRow.holds Tryz.pinned (OpenSpec.upto bendSameSpec)

/-- 'merestonelaw08.BendBack', WHERE WHAT IT READS IS OF BULK AT MOST 1048576: true; the input reads as it did. -/
def bendBackUptoRow : OpenClaim := { program := "ytglnklfhgdjccaagreat", sum := "238ac8c4ba5ba10f33410ecf7677a568356e749b2cb933f58fa17bbdb28bba18", func := "merestone/merestonelaw08.BendBack", spec := "bendBack", inPlace := ["math/bits.Add64"], unfollowed := true, recurses := true, plainKeys := false, apart := false, narrowed := true }
def BendBackUptoSaid : Prop := bendBackUptoRow.holds Tryz.pinned (OpenSpec.upto bendBackSpec)

end Rows
end Go.Proofs.YtglnklfhgdjccaaGreat
