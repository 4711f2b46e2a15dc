/-
  No cell of these rows narrows 'for every input' (looked for: loops, veiled, ifaces, maps, wideKeys, modest, calm, conditions, laid).
  DERIVED. THE GIVEN ROWS OF THIS SEAT. 11 by the template 'for every input the law returns true; each argument reads behind the call as it read before'; 0 by the template 'total and deterministic' (their statements: YtgkcenhopmjmlaaGreatTotals.lean).
  GIVEN WITH THE SEED: the statements are not yours to turn. If you find one false, say at which input.
  Laid BY PROGRAM, IN A SANDBOX (cutbox-rows.mjs): the forced cells as the released guide's own fill.sh prints them over the translation afd8f5756e87ed77… (all of the seat's roots in one cut). By AI agents, Wed Nov 11 2026. No macro, syntax, notation, axiom, sorry.
-/
import Derived.Test.YtgkcenhopmjmlaaGreatChecked
import GoSem.Claim
import GoSem.ClaimJoined
import GoSem.ClaimMapViews
import Derived.JoinedTies
import Derived.KernelRfl
namespace Go.Proofs.YtgkcenhopmjmlaaGreat
/- THE CELL 'sum', in the pinned program and in every row, IS THE sha256 OF THE DUMP (.gsa) THAT YtgkcenhopmjmlaaGreatProg.lean LOADS. Nothing in Lean hashes anything: it is a label: what it is worth is what the hold of that sum in a sandbox is worth. -/
noncomputable def Tryz.pinned : Pinned := { name := "ytgkcenhopmjmlaagreat", sum := "afd8f5756e87ed7702a226c3e463b92c66cb3e7ee9c03d6cd867830d0c9595bd", checked := Tryz.checked }
namespace Rows
def none {H : Type} : Left H := { results := [], args := [] }

/-- 'merestonelaw07.JoinMerges': WHATEVER THE INPUT: true; the input reads as it did. -/
def joinMergesSpec : ChangeSpec := { name := "joinMerges", fn := fun _ => fun
  | [d1, d2, d3] => { results := [.lit (.bool true)], args := [d1, d2, d3] }
  | _ => none }
def joinMergesRow : OpenClaim := { program := "ytgkcenhopmjmlaagreat", sum := "afd8f5756e87ed7702a226c3e463b92c66cb3e7ee9c03d6cd867830d0c9595bd", func := "merestone/merestonelaw07.JoinMerges", spec := "joinMerges", inPlace := ["math/bits.Add64"], unfollowed := true, recurses := true, plainKeys := false, apart := false }
def JoinMergesSaid : Prop := joinMergesRow.holds Tryz.pinned (OpenSpec.ofChange joinMergesSpec)

/-- ITS FALSE NEIGHBOUR: 'it returns false'. Refute it at one input. -/
def joinMergesWrong : ChangeSpec := { name := "joinMerges", fn := fun _ => fun
  | [d1, d2, d3] => { results := [.lit (.bool false)], args := [d1, d2, d3] }
  | _ => none }
def JoinMergesWrongFalsely : Prop := joinMergesRow.holds Tryz.pinned (OpenSpec.ofChange joinMergesWrong)

/-- 'merestonelaw07.JoinAreas': WHATEVER THE INPUT: true; the input reads as it did. -/
def joinAreasSpec : ChangeSpec := { name := "joinAreas", fn := fun _ => fun
  | [d1, d2, d3] => { results := [.lit (.bool true)], args := [d1, d2, d3] }
  | _ => none }
def joinAreasRow : OpenClaim := { program := "ytgkcenhopmjmlaagreat", sum := "afd8f5756e87ed7702a226c3e463b92c66cb3e7ee9c03d6cd867830d0c9595bd", func := "merestone/merestonelaw07.JoinAreas", spec := "joinAreas", inPlace := ["math/bits.Add64"], unfollowed := true, recurses := true, plainKeys := false, apart := false }
def JoinAreasSaid : Prop := joinAreasRow.holds Tryz.pinned (OpenSpec.ofChange joinAreasSpec)

/-- ITS FALSE NEIGHBOUR: 'it returns false'. Refute it at one input. -/
def joinAreasWrong : ChangeSpec := { name := "joinAreas", fn := fun _ => fun
  | [d1, d2, d3] => { results := [.lit (.bool false)], args := [d1, d2, d3] }
  | _ => none }
def JoinAreasWrongFalsely : Prop := joinAreasRow.holds Tryz.pinned (OpenSpec.ofChange joinAreasWrong)

/-- 'merestonelaw07.JoinAlone': WHATEVER THE INPUT: true; the input reads as it did. -/
def joinAloneSpec : ChangeSpec := { name := "joinAlone", fn := fun _ => fun
  | [d1, d2] => { results := [.lit (.bool true)], args := [d1, d2] }
  | _ => none }
def joinAloneRow : OpenClaim := { program := "ytgkcenhopmjmlaagreat", sum := "afd8f5756e87ed7702a226c3e463b92c66cb3e7ee9c03d6cd867830d0c9595bd", func := "merestone/merestonelaw07.JoinAlone", spec := "joinAlone", inPlace := ["math/bits.Add64"], unfollowed := true, recurses := true, plainKeys := false, apart := false }
def JoinAloneSaid : Prop := joinAloneRow.holds Tryz.pinned (OpenSpec.ofChange joinAloneSpec)

/-- ITS FALSE NEIGHBOUR: 'it returns false'. Refute it at one input. -/
def joinAloneWrong : ChangeSpec := { name := "joinAlone", fn := fun _ => fun
  | [d1, d2] => { results := [.lit (.bool false)], args := [d1, d2] }
  | _ => none }
def JoinAloneWrongFalsely : Prop := joinAloneRow.holds Tryz.pinned (OpenSpec.ofChange joinAloneWrong)

/-- 'merestonelaw06.CutSplits': WHATEVER THE INPUT: true; the input reads as it did. -/
def cutSplitsSpec : ChangeSpec := { name := "cutSplits", fn := fun _ => fun
  | [d1, d2, d3, d4] => { results := [.lit (.bool true)], args := [d1, d2, d3, d4] }
  | _ => none }
def cutSplitsRow : OpenClaim := { program := "ytgkcenhopmjmlaagreat", sum := "afd8f5756e87ed7702a226c3e463b92c66cb3e7ee9c03d6cd867830d0c9595bd", func := "merestone/merestonelaw06.CutSplits", spec := "cutSplits", inPlace := ["math/bits.Add64"], unfollowed := true, recurses := true, plainKeys := false, apart := false }
def CutSplitsSaid : Prop := cutSplitsRow.holds Tryz.pinned (OpenSpec.ofChange cutSplitsSpec)

/-- ITS FALSE NEIGHBOUR: 'it returns false'. Refute it at one input. -/
def cutSplitsWrong : ChangeSpec := { name := "cutSplits", fn := fun _ => fun
  | [d1, d2, d3, d4] => { results := [.lit (.bool false)], args := [d1, d2, d3, d4] }
  | _ => none }
def CutSplitsWrongFalsely : Prop := cutSplitsRow.holds Tryz.pinned (OpenSpec.ofChange cutSplitsWrong)

/-- 'merestonelaw06.CutAreas': WHATEVER THE INPUT: true; the input reads as it did. -/
def cutAreasSpec : ChangeSpec := { name := "cutAreas", fn := fun _ => fun
  | [d1, d2, d3, d4] => { results := [.lit (.bool true)], args := [d1, d2, d3, d4] }
  | _ => none }
def cutAreasRow : OpenClaim := { program := "ytgkcenhopmjmlaagreat", sum := "afd8f5756e87ed7702a226c3e463b92c66cb3e7ee9c03d6cd867830d0c9595bd", func := "merestone/merestonelaw06.CutAreas", spec := "cutAreas", inPlace := ["math/bits.Add64"], unfollowed := true, recurses := true, plainKeys := false, apart := false }
def CutAreasSaid : Prop := cutAreasRow.holds Tryz.pinned (OpenSpec.ofChange cutAreasSpec)

/-- ITS FALSE NEIGHBOUR: 'it returns false'. Refute it at one input. -/
def cutAreasWrong : ChangeSpec := { name := "cutAreas", fn := fun _ => fun
  | [d1, d2, d3, d4] => { results := [.lit (.bool false)], args := [d1, d2, d3, d4] }
  | _ => none }
def CutAreasWrongFalsely : Prop := cutAreasRow.holds Tryz.pinned (OpenSpec.ofChange cutAreasWrong)

/-- 'merestonelaw06.CutSides': WHATEVER THE INPUT: true; the input reads as it did. -/
def cutSidesSpec : ChangeSpec := { name := "cutSides", fn := fun _ => fun
  | [d1, d2, d3, d4] => { results := [.lit (.bool true)], args := [d1, d2, d3, d4] }
  | _ => none }
def cutSidesRow : OpenClaim := { program := "ytgkcenhopmjmlaagreat", sum := "afd8f5756e87ed7702a226c3e463b92c66cb3e7ee9c03d6cd867830d0c9595bd", func := "merestone/merestonelaw06.CutSides", spec := "cutSides", inPlace := ["math/bits.Add64"], unfollowed := true, recurses := true, plainKeys := false, apart := false }
def CutSidesSaid : Prop := cutSidesRow.holds Tryz.pinned (OpenSpec.ofChange cutSidesSpec)

/-- ITS FALSE NEIGHBOUR: 'it returns false'. Refute it at one input. -/
def cutSidesWrong : ChangeSpec := { name := "cutSides", fn := fun _ => fun
  | [d1, d2, d3, d4] => { results := [.lit (.bool false)], args := [d1, d2, d3, d4] }
  | _ => none }
def CutSidesWrongFalsely : Prop := cutSidesRow.holds Tryz.pinned (OpenSpec.ofChange cutSidesWrong)

/-- 'merestonelaw06.CutOnce': WHATEVER THE INPUT: true; the input reads as it did. -/
def cutOnceSpec : ChangeSpec := { name := "cutOnce", fn := fun _ => fun
  | [d1, d2, d3, d4, d5] => { results := [.lit (.bool true)], args := [d1, d2, d3, d4, d5] }
  | _ => none }
def cutOnceRow : OpenClaim := { program := "ytgkcenhopmjmlaagreat", sum := "afd8f5756e87ed7702a226c3e463b92c66cb3e7ee9c03d6cd867830d0c9595bd", func := "merestone/merestonelaw06.CutOnce", spec := "cutOnce", inPlace := ["math/bits.Add64"], unfollowed := true, recurses := true, plainKeys := false, apart := false }
def CutOnceSaid : Prop := cutOnceRow.holds Tryz.pinned (OpenSpec.ofChange cutOnceSpec)

/-- ITS FALSE NEIGHBOUR: 'it returns false'. Refute it at one input. -/
def cutOnceWrong : ChangeSpec := { name := "cutOnce", fn := fun _ => fun
  | [d1, d2, d3, d4, d5] => { results := [.lit (.bool false)], args := [d1, d2, d3, d4, d5] }
  | _ => none }
def CutOnceWrongFalsely : Prop := cutOnceRow.holds Tryz.pinned (OpenSpec.ofChange cutOnceWrong)

/-- 'merestonelaw06.CutKeeps': WHATEVER THE INPUT: true; the input reads as it did. -/
def cutKeepsSpec : ChangeSpec := { name := "cutKeeps", fn := fun _ => fun
  | [d1, d2, d3, d4] => { results := [.lit (.bool true)], args := [d1, d2, d3, d4] }
  | _ => none }
def cutKeepsRow : OpenClaim := { program := "ytgkcenhopmjmlaagreat", sum := "afd8f5756e87ed7702a226c3e463b92c66cb3e7ee9c03d6cd867830d0c9595bd", func := "merestone/merestonelaw06.CutKeeps", spec := "cutKeeps", inPlace := ["math/bits.Add64"], unfollowed := true, recurses := true, plainKeys := false, apart := false }
def CutKeepsSaid : Prop := cutKeepsRow.holds Tryz.pinned (OpenSpec.ofChange cutKeepsSpec)

/-- ITS FALSE NEIGHBOUR: 'it returns false'. Refute it at one input. -/
def cutKeepsWrong : ChangeSpec := { name := "cutKeeps", fn := fun _ => fun
  | [d1, d2, d3, d4] => { results := [.lit (.bool false)], args := [d1, d2, d3, d4] }
  | _ => none }
def CutKeepsWrongFalsely : Prop := cutKeepsRow.holds Tryz.pinned (OpenSpec.ofChange cutKeepsWrong)

/-- 'merestonelaw06.CutStrips': WHATEVER THE INPUT: true; the input reads as it did. -/
def cutStripsSpec : ChangeSpec := { name := "cutStrips", fn := fun _ => fun
  | [d1, d2, d3] => { results := [.lit (.bool true)], args := [d1, d2, d3] }
  | _ => none }
def cutStripsRow : OpenClaim := { program := "ytgkcenhopmjmlaagreat", sum := "afd8f5756e87ed7702a226c3e463b92c66cb3e7ee9c03d6cd867830d0c9595bd", func := "merestone/merestonelaw06.CutStrips", spec := "cutStrips", inPlace := ["math/bits.Add64"], unfollowed := true, recurses := true, plainKeys := false, apart := false }
def CutStripsSaid : Prop := cutStripsRow.holds Tryz.pinned (OpenSpec.ofChange cutStripsSpec)

/-- ITS FALSE NEIGHBOUR: 'it returns false'. Refute it at one input. -/
def cutStripsWrong : ChangeSpec := { name := "cutStrips", fn := fun _ => fun
  | [d1, d2, d3] => { results := [.lit (.bool false)], args := [d1, d2, d3] }
  | _ => none }
def CutStripsWrongFalsely : Prop := cutStripsRow.holds Tryz.pinned (OpenSpec.ofChange cutStripsWrong)

/-- 'merestonelaw05.PlanChanges': WHATEVER THE INPUT: true; the input reads as it did. -/
def planChangesSpec : ChangeSpec := { name := "planChanges", fn := fun _ => fun
  | [d1, d2] => { results := [.lit (.bool true)], args := [d1, d2] }
  | _ => none }
def planChangesRow : OpenClaim := { program := "ytgkcenhopmjmlaagreat", sum := "afd8f5756e87ed7702a226c3e463b92c66cb3e7ee9c03d6cd867830d0c9595bd", func := "merestone/merestonelaw05.PlanChanges", spec := "planChanges", inPlace := ["math/bits.Add64"], unfollowed := true, recurses := true, plainKeys := false, apart := false }
def PlanChangesSaid : Prop := planChangesRow.holds Tryz.pinned (OpenSpec.ofChange planChangesSpec)

/-- ITS FALSE NEIGHBOUR: 'it returns false'. Refute it at one input. -/
def planChangesWrong : ChangeSpec := { name := "planChanges", fn := fun _ => fun
  | [d1, d2] => { results := [.lit (.bool false)], args := [d1, d2] }
  | _ => none }
def PlanChangesWrongFalsely : Prop := planChangesRow.holds Tryz.pinned (OpenSpec.ofChange planChangesWrong)

/-- 'merestonelaw20.TxnApplies': WHATEVER THE INPUT: true; the input reads as it did. -/
def txnAppliesSpec : ChangeSpec := { name := "txnApplies", fn := fun _ => fun
  | [d1, d2] => { results := [.lit (.bool true)], args := [d1, d2] }
  | _ => none }
def txnAppliesRow : OpenClaim := { program := "ytgkcenhopmjmlaagreat", sum := "afd8f5756e87ed7702a226c3e463b92c66cb3e7ee9c03d6cd867830d0c9595bd", func := "merestone/merestonelaw20.TxnApplies", spec := "txnApplies", inPlace := ["math/bits.Add64"], unfollowed := true, recurses := true, plainKeys := false, apart := false }
def TxnAppliesSaid : Prop := txnAppliesRow.holds Tryz.pinned (OpenSpec.ofChange txnAppliesSpec)

/-- ITS FALSE NEIGHBOUR: 'it returns false'. Refute it at one input. -/
def txnAppliesWrong : ChangeSpec := { name := "txnApplies", fn := fun _ => fun
  | [d1, d2] => { results := [.lit (.bool false)], args := [d1, d2] }
  | _ => none }
def TxnAppliesWrongFalsely : Prop := txnAppliesRow.holds Tryz.pinned (OpenSpec.ofChange txnAppliesWrong)

/- THE SECOND FORM. 'bulk': how many values and letters a reading holds, each counted each time it is reached (what is shared counts as often as it is met; a slice's spare places count too). A statement '..UptoSaid' is the law's where the arguments, and the package variables that the reading takes, are together of bulk at most 1048576: NARROWER than '..Said'. Prove '..Said' where nothing that the law and all that it calls make is longer than what came in: it says more and counts as full. Else prove '..UptoSaid'. A law counts once. -/
mutual
def uptoBulk {H : Type} : DataW H → Nat
  | .lit (.string bytes) => bytes.length + 1
  | .lit _ => 1
  | .nil => 1
  | .ptr d => uptoBulk d + 1
  | .slice elems spare => uptoBulkAll elems + uptoBulkAll spare + 1
  | .agg parts => uptoBulkAll parts + 1
  | .iface _ d => uptoBulk d + 1
  | .map entries => uptoBulkEntries entries + 1
  | .held _ => 1
def uptoBulkAll {H : Type} : List (DataW H) → Nat
  | [] => 0
  | d :: r => uptoBulk d + uptoBulkAll r
def uptoBulkEntries {H : Type} : List (Lit × DataW H) → Nat
  | [] => 0
  | x :: r => uptoBulkEntry x + uptoBulkEntries r
def uptoBulkEntry {H : Type} : Lit × DataW H → Nat
  | (.string bytes, d) => bytes.length + uptoBulk d + 1
  | (_, d) => uptoBulk d + 1
 end
def uptoSmall : (H : Type) → List (DataW H) → Bool := fun _ ds => decide (uptoBulkAll ds ≤ 1048576)
def OpenSpec.upto (s : _root_.Go.ChangeSpec) : _root_.Go.OpenSpec := { _root_.Go.OpenSpec.ofChange s with cond := some uptoSmall }

/-- 'merestonelaw07.JoinMerges', WHERE WHAT IT READS IS OF BULK AT MOST 1048576: true; the input reads as it did. -/
def joinMergesUptoRow : OpenClaim := { program := "ytgkcenhopmjmlaagreat", sum := "afd8f5756e87ed7702a226c3e463b92c66cb3e7ee9c03d6cd867830d0c9595bd", func := "merestone/merestonelaw07.JoinMerges", spec := "joinMerges", inPlace := ["math/bits.Add64"], unfollowed := true, recurses := true, plainKeys := false, apart := false, narrowed := true }
def JoinMergesUptoSaid : Prop := joinMergesUptoRow.holds Tryz.pinned (OpenSpec.upto joinMergesSpec)

/-- 'merestonelaw07.JoinAreas', WHERE WHAT IT READS IS OF BULK AT MOST 1048576: true; the input reads as it did. -/
def joinAreasUptoRow : OpenClaim := { program := "ytgkcenhopmjmlaagreat", sum := "afd8f5756e87ed7702a226c3e463b92c66cb3e7ee9c03d6cd867830d0c9595bd", func := "merestone/merestonelaw07.JoinAreas", spec := "joinAreas", inPlace := ["math/bits.Add64"], unfollowed := true, recurses := true, plainKeys := false, apart := false, narrowed := true }
def JoinAreasUptoSaid : Prop := joinAreasUptoRow.holds Tryz.pinned (OpenSpec.upto joinAreasSpec)

/-- 'merestonelaw07.JoinAlone', WHERE WHAT IT READS IS OF BULK AT MOST 1048576: true; the input reads as it did. -/
def joinAloneUptoRow : OpenClaim := { program := "ytgkcenhopmjmlaagreat", sum := "afd8f5756e87ed7702a226c3e463b92c66cb3e7ee9c03d6cd867830d0c9595bd", func := "merestone/merestonelaw07.JoinAlone", spec := "joinAlone", inPlace := ["math/bits.Add64"], unfollowed := true, recurses := true, plainKeys := false, apart := false, narrowed := true }
def JoinAloneUptoSaid : Prop := joinAloneUptoRow.holds Tryz.pinned (OpenSpec.upto joinAloneSpec)

/-- 'merestonelaw06.CutSplits', WHERE WHAT IT READS IS OF BULK AT MOST 1048576: true; the input reads as it did. -/
def cutSplitsUptoRow : OpenClaim := { program := "ytgkcenhopmjmlaagreat", sum := "afd8f5756e87ed7702a226c3e463b92c66cb3e7ee9c03d6cd867830d0c9595bd", func := "merestone/merestonelaw06.CutSplits", spec := "cutSplits", inPlace := ["math/bits.Add64"], unfollowed := true, recurses := true, plainKeys := false, apart := false, narrowed := true }
def CutSplitsUptoSaid : Prop := cutSplitsUptoRow.holds Tryz.pinned (OpenSpec.upto cutSplitsSpec)

/-- 'merestonelaw06.CutAreas', WHERE WHAT IT READS IS OF BULK AT MOST 1048576: true; the input reads as it did. -/
def cutAreasUptoRow : OpenClaim := { program := "ytgkcenhopmjmlaagreat", sum := "afd8f5756e87ed7702a226c3e463b92c66cb3e7ee9c03d6cd867830d0c9595bd", func := "merestone/merestonelaw06.CutAreas", spec := "cutAreas", inPlace := ["math/bits.Add64"], unfollowed := true, recurses := true, plainKeys := false, apart := false, narrowed := true }
def CutAreasUptoSaid : Prop := cutAreasUptoRow.holds Tryz.pinned (OpenSpec.upto cutAreasSpec)

/-- 'merestonelaw06.CutSides', WHERE WHAT IT READS IS OF BULK AT MOST 1048576: true; the input reads as it did. -/
def cutSidesUptoRow : OpenClaim := { program := "ytgkcenhopmjmlaagreat", sum := "afd8f5756e87ed7702a226c3e463b92c66cb3e7ee9c03d6cd867830d0c9595bd", func := "merestone/merestonelaw06.CutSides", spec := "cutSides", inPlace := ["math/bits.Add64"], unfollowed := true, recurses := true, plainKeys := false, apart := false, narrowed := true }
def CutSidesUptoSaid : Prop := cutSidesUptoRow.holds Tryz.pinned (OpenSpec.upto cutSidesSpec)

/-- 'merestonelaw06.CutOnce', WHERE WHAT IT READS IS OF BULK AT MOST 1048576: true; the input reads as it did. -/
def cutOnceUptoRow : OpenClaim := { program := "ytgkcenhopmjmlaagreat", sum := "afd8f5756e87ed7702a226c3e463b92c66cb3e7ee9c03d6cd867830d0c9595bd", func := "merestone/merestonelaw06.CutOnce", spec := "cutOnce", inPlace := ["math/bits.Add64"], unfollowed := true, recurses := true, plainKeys := false, apart := false, narrowed := true }
def CutOnceUptoSaid : Prop := cutOnceUptoRow.holds Tryz.pinned (OpenSpec.upto cutOnceSpec)

/-- 'merestonelaw06.CutKeeps', WHERE WHAT IT READS IS OF BULK AT MOST 1048576: true; the input reads as it did. -/
def cutKeepsUptoRow : OpenClaim := { program := "ytgkcenhopmjmlaagreat", sum := "afd8f5756e87ed7702a226c3e463b92c66cb3e7ee9c03d6cd867830d0c9595bd", func := "merestone/merestonelaw06.CutKeeps", spec := "cutKeeps", inPlace := ["math/bits.Add64"], unfollowed := true, recurses := true, plainKeys := false, apart := false, narrowed := true }
def CutKeepsUptoSaid : Prop := cutKeepsUptoRow.holds Tryz.pinned (OpenSpec.upto cutKeepsSpec)

/-- 'merestonelaw06.CutStrips', WHERE WHAT IT READS IS OF BULK AT MOST 1048576: true; the input reads as it did. -/
def cutStripsUptoRow : OpenClaim := { program := "ytgkcenhopmjmlaagreat", sum := "afd8f5756e87ed7702a226c3e463b92c66cb3e7ee9c03d6cd867830d0c9595bd", func := "merestone/merestonelaw06.CutStrips", spec := "cutStrips", inPlace := ["math/bits.Add64"], unfollowed := true, recurses := true, plainKeys := false, apart := false, narrowed := true }
def CutStripsUptoSaid : Prop := cutStripsUptoRow.holds Tryz.pinned (OpenSpec.upto cutStripsSpec)

/-- 'merestonelaw05.PlanChanges', WHERE WHAT IT READS IS OF BULK AT MOST 1048576: true; the input reads as it did. -/
def planChangesUptoRow : OpenClaim := { program := "ytgkcenhopmjmlaagreat", sum := "afd8f5756e87ed7702a226c3e463b92c66cb3e7ee9c03d6cd867830d0c9595bd", func := "merestone/merestonelaw05.PlanChanges", spec := "planChanges", inPlace := ["math/bits.Add64"], unfollowed := true, recurses := true, plainKeys := false, apart := false, narrowed := true }
def PlanChangesUptoSaid : Prop := planChangesUptoRow.holds Tryz.pinned (OpenSpec.upto planChangesSpec)

/-- 'merestonelaw20.TxnApplies', WHERE WHAT IT READS IS OF BULK AT MOST 1048576: true; the input reads as it did. -/
def txnAppliesUptoRow : OpenClaim := { program := "ytgkcenhopmjmlaagreat", sum := "afd8f5756e87ed7702a226c3e463b92c66cb3e7ee9c03d6cd867830d0c9595bd", func := "merestone/merestonelaw20.TxnApplies", spec := "txnApplies", inPlace := ["math/bits.Add64"], unfollowed := true, recurses := true, plainKeys := false, apart := false, narrowed := true }
def TxnAppliesUptoSaid : Prop := txnAppliesUptoRow.holds Tryz.pinned (OpenSpec.upto txnAppliesSpec)

end Rows
end Go.Proofs.YtgkcenhopmjmlaaGreat
