/-
  No cell of these rows narrows 'for every input' (looked for: loops, veiled, ifaces, maps, wideKeys, modest, calm, conditions, laid).
  DERIVED. THE GIVEN ROWS OF THIS SEAT. 6 by the template 'for every input the law returns true; each argument reads behind the call as it read before'; 0 by the template 'total and deterministic' (their statements: YtpkeacnacjnlcaaGreatTotals.lean).
  GIVEN WITH THE SEED: the statements are not yours to turn. If you find one false, say at which input.
  Laid BY PROGRAM, IN A SANDBOX (cutbox-rows.mjs): the forced cells as the released guide's own fill.sh prints them over the translation 72af6fda2fb933b9… (all of the seat's roots in one cut). By AI agents, Wed Nov 11 2026. No macro, syntax, notation, axiom, sorry.
-/
import Derived.Test.YtpkeacnacjnlcaaGreatChecked
import GoSem.Claim
import GoSem.ClaimJoined
import GoSem.ClaimMapViews
import Derived.JoinedTies
import Derived.KernelRfl
namespace Go.Proofs.YtpkeacnacjnlcaaGreat
/- THE CELL 'sum', in the pinned program and in every row, IS THE sha256 OF THE DUMP (.gsa) THAT YtpkeacnacjnlcaaGreatProg.lean LOADS. Nothing in Lean hashes anything: it is a label: what it is worth is what the hold of that sum in a sandbox is worth. -/
noncomputable def Tryz.pinned : Pinned := { name := "ytpkeacnacjnlcaagreat", sum := "72af6fda2fb933b9ab18616d9b4d75a7251dc72a6b3d170d833f0fb0d261249e", checked := Tryz.checked }
namespace Rows
def none {H : Type} : Left H := { results := [], args := [] }

/-- 'merestonelaw06.CutStrips': WHATEVER THE INPUT: true; the input reads as it did. -/
def cutStripsSpec : ChangeSpec := { name := "cutStrips", fn := fun _ => fun
  | [d1, d2, d3] => { results := [.lit (.bool true)], args := [d1, d2, d3] }
  | _ => none }
def cutStripsRow : OpenClaim := { program := "ytpkeacnacjnlcaagreat", sum := "72af6fda2fb933b9ab18616d9b4d75a7251dc72a6b3d170d833f0fb0d261249e", func := "merestone/merestonelaw06.CutStrips", spec := "cutStrips", inPlace := ["math/bits.Add64"], unfollowed := true, recurses := true, plainKeys := false, apart := false }
def CutStripsSaid : Prop := cutStripsRow.holds Tryz.pinned (OpenSpec.ofChange cutStripsSpec)

/-- ITS FALSE NEIGHBOUR: 'it returns false'. Refute it at one input. -/
def cutStripsWrong : ChangeSpec := { name := "cutStrips", fn := fun _ => fun
  | [d1, d2, d3] => { results := [.lit (.bool false)], args := [d1, d2, d3] }
  | _ => none }
def CutStripsWrongFalsely : Prop := cutStripsRow.holds Tryz.pinned (OpenSpec.ofChange cutStripsWrong)

/-- 'merestonelaw14.RecordDelta': WHATEVER THE INPUT: true; the input reads as it did. -/
def recordDeltaSpec : ChangeSpec := { name := "recordDelta", fn := fun _ => fun
  | [d1, d2] => { results := [.lit (.bool true)], args := [d1, d2] }
  | _ => none }
def recordDeltaRow : OpenClaim := { program := "ytpkeacnacjnlcaagreat", sum := "72af6fda2fb933b9ab18616d9b4d75a7251dc72a6b3d170d833f0fb0d261249e", func := "merestone/merestonelaw14.RecordDelta", spec := "recordDelta", inPlace := ["math/bits.Add64", "internal/bytealg.Compare"], unfollowed := true, recurses := true, plainKeys := false, apart := false }
def RecordDeltaSaid : Prop := recordDeltaRow.holds Tryz.pinned (OpenSpec.ofChange recordDeltaSpec)

/-- ITS FALSE NEIGHBOUR: 'it returns false'. Refute it at one input. -/
def recordDeltaWrong : ChangeSpec := { name := "recordDelta", fn := fun _ => fun
  | [d1, d2] => { results := [.lit (.bool false)], args := [d1, d2] }
  | _ => none }
def RecordDeltaWrongFalsely : Prop := recordDeltaRow.holds Tryz.pinned (OpenSpec.ofChange recordDeltaWrong)

/-- 'merestonelaw14.RecordSteps': WHATEVER THE INPUT: true; the input reads as it did. -/
def recordStepsSpec : ChangeSpec := { name := "recordSteps", fn := fun _ => fun
  | [d1, d2] => { results := [.lit (.bool true)], args := [d1, d2] }
  | _ => none }
def recordStepsRow : OpenClaim := { program := "ytpkeacnacjnlcaagreat", sum := "72af6fda2fb933b9ab18616d9b4d75a7251dc72a6b3d170d833f0fb0d261249e", func := "merestone/merestonelaw14.RecordSteps", spec := "recordSteps", inPlace := ["math/bits.Add64", "internal/bytealg.Compare"], unfollowed := true, recurses := true, plainKeys := false, apart := false }
def RecordStepsSaid : Prop := recordStepsRow.holds Tryz.pinned (OpenSpec.ofChange recordStepsSpec)

/-- ITS FALSE NEIGHBOUR: 'it returns false'. Refute it at one input. -/
def recordStepsWrong : ChangeSpec := { name := "recordSteps", fn := fun _ => fun
  | [d1, d2] => { results := [.lit (.bool false)], args := [d1, d2] }
  | _ => none }
def RecordStepsWrongFalsely : Prop := recordStepsRow.holds Tryz.pinned (OpenSpec.ofChange recordStepsWrong)

/-- 'merestonelaw14.RecordBack': WHATEVER THE INPUT: true; the input reads as it did. -/
def recordBackSpec : ChangeSpec := { name := "recordBack", fn := fun _ => fun
  | [d1, d2, d3, d4] => { results := [.lit (.bool true)], args := [d1, d2, d3, d4] }
  | _ => none }
def recordBackRow : OpenClaim := { program := "ytpkeacnacjnlcaagreat", sum := "72af6fda2fb933b9ab18616d9b4d75a7251dc72a6b3d170d833f0fb0d261249e", func := "merestone/merestonelaw14.RecordBack", spec := "recordBack", inPlace := ["math/bits.Add64", "internal/bytealg.Compare"], unfollowed := true, recurses := true, plainKeys := false, apart := false }
def RecordBackSaid : Prop := recordBackRow.holds Tryz.pinned (OpenSpec.ofChange recordBackSpec)

/-- ITS FALSE NEIGHBOUR: 'it returns false'. Refute it at one input. -/
def recordBackWrong : ChangeSpec := { name := "recordBack", fn := fun _ => fun
  | [d1, d2, d3, d4] => { results := [.lit (.bool false)], args := [d1, d2, d3, d4] }
  | _ => none }
def RecordBackWrongFalsely : Prop := recordBackRow.holds Tryz.pinned (OpenSpec.ofChange recordBackWrong)

/-- 'merestonelaw14.RecordPlans': WHATEVER THE INPUT: true; the input reads as it did. -/
def recordPlansSpec : ChangeSpec := { name := "recordPlans", fn := fun _ => fun
  | [d] => { results := [.lit (.bool true)], args := [d] }
  | _ => none }
def recordPlansRow : OpenClaim := { program := "ytpkeacnacjnlcaagreat", sum := "72af6fda2fb933b9ab18616d9b4d75a7251dc72a6b3d170d833f0fb0d261249e", func := "merestone/merestonelaw14.RecordPlans", spec := "recordPlans", inPlace := ["math/bits.Add64", "internal/bytealg.Compare"], unfollowed := true, recurses := true, plainKeys := false, apart := false }
def RecordPlansSaid : Prop := recordPlansRow.holds Tryz.pinned (OpenSpec.ofChange recordPlansSpec)

/-- ITS FALSE NEIGHBOUR: 'it returns false'. Refute it at one input. -/
def recordPlansWrong : ChangeSpec := { name := "recordPlans", fn := fun _ => fun
  | [d] => { results := [.lit (.bool false)], args := [d] }
  | _ => none }
def RecordPlansWrongFalsely : Prop := recordPlansRow.holds Tryz.pinned (OpenSpec.ofChange recordPlansWrong)

/-- 'merestonelaw14.RecordApply': WHATEVER THE INPUT: true; the input reads as it did. -/
def recordApplySpec : ChangeSpec := { name := "recordApply", fn := fun _ => fun
  | [d1, d2] => { results := [.lit (.bool true)], args := [d1, d2] }
  | _ => none }
def recordApplyRow : OpenClaim := { program := "ytpkeacnacjnlcaagreat", sum := "72af6fda2fb933b9ab18616d9b4d75a7251dc72a6b3d170d833f0fb0d261249e", func := "merestone/merestonelaw14.RecordApply", spec := "recordApply", inPlace := ["math/bits.Add64", "internal/bytealg.Compare"], unfollowed := true, recurses := true, plainKeys := false, apart := false }
def RecordApplySaid : Prop := recordApplyRow.holds Tryz.pinned (OpenSpec.ofChange recordApplySpec)

/-- ITS FALSE NEIGHBOUR: 'it returns false'. Refute it at one input. -/
def recordApplyWrong : ChangeSpec := { name := "recordApply", fn := fun _ => fun
  | [d1, d2] => { results := [.lit (.bool false)], args := [d1, d2] }
  | _ => none }
def RecordApplyWrongFalsely : Prop := recordApplyRow.holds Tryz.pinned (OpenSpec.ofChange recordApplyWrong)

/- THE SECOND FORM. 'bulk': how many values and letters a reading holds, each counted each time it is reached (what is shared counts as often as it is met; a slice's spare places count too). A statement '..UptoSaid' is the law's where the arguments, and the package variables that the reading takes, are together of bulk at most 1048576: NARROWER than '..Said'. Prove '..Said' where nothing that the law and all that it calls make is longer than what came in: it says more and counts as full. Else prove '..UptoSaid'. A law counts once. -/
mutual
def uptoBulk {H : Type} : DataW H → Nat
  | .lit (.string bytes) => bytes.length + 1
  | .lit _ => 1
  | .nil => 1
  | .ptr d => uptoBulk d + 1
  | .slice elems spare => uptoBulkAll elems + uptoBulkAll spare + 1
  | .agg parts => uptoBulkAll parts + 1
  | .iface _ d => uptoBulk d + 1
  | .map entries => uptoBulkEntries entries + 1
  | .held _ => 1
def uptoBulkAll {H : Type} : List (DataW H) → Nat
  | [] => 0
  | d :: r => uptoBulk d + uptoBulkAll r
def uptoBulkEntries {H : Type} : List (Lit × DataW H) → Nat
  | [] => 0
  | x :: r => uptoBulkEntry x + uptoBulkEntries r
def uptoBulkEntry {H : Type} : Lit × DataW H → Nat
  | (.string bytes, d) => bytes.length + uptoBulk d + 1
  | (_, d) => uptoBulk d + 1
 end
def uptoSmall : (H : Type) → List (DataW H) → Bool := fun _ ds => decide (uptoBulkAll ds ≤ 1048576)
def OpenSpec.upto (s : _root_.Go.ChangeSpec) : _root_.Go.OpenSpec := { _root_.Go.OpenSpec.ofChange s with cond := some uptoSmall }

/-- 'merestonelaw06.CutStrips', WHERE WHAT IT READS IS OF BULK AT MOST 1048576: true; the input reads as it did. -/
def cutStripsUptoRow : OpenClaim := { program := "ytpkeacnacjnlcaagreat", sum := "72af6fda2fb933b9ab18616d9b4d75a7251dc72a6b3d170d833f0fb0d261249e", func := "merestone/merestonelaw06.CutStrips", spec := "cutStrips", inPlace := ["math/bits.Add64"], unfollowed := true, recurses := true, plainKeys := false, apart := false, narrowed := true }
def CutStripsUptoSaid : Prop := cutStripsUptoRow.holds Tryz.pinned (OpenSpec.upto cutStripsSpec)

/-- 'merestonelaw14.RecordDelta', WHERE WHAT IT READS IS OF BULK AT MOST 1048576: true; the input reads as it did. -/
def recordDeltaUptoRow : OpenClaim := { program := "ytpkeacnacjnlcaagreat", sum := "72af6fda2fb933b9ab18616d9b4d75a7251dc72a6b3d170d833f0fb0d261249e", func := "merestone/merestonelaw14.RecordDelta", spec := "recordDelta", inPlace := ["math/bits.Add64", "internal/bytealg.Compare"], unfollowed := true, recurses := true, plainKeys := false, apart := false, narrowed := true }
def RecordDeltaUptoSaid : Prop := recordDeltaUptoRow.holds Tryz.pinned (OpenSpec.upto recordDeltaSpec)

/-- 'merestonelaw14.RecordSteps', WHERE WHAT IT READS IS OF BULK AT MOST 1048576: true; the input reads as it did. -/
def recordStepsUptoRow : OpenClaim := { program := "ytpkeacnacjnlcaagreat", sum := "72af6fda2fb933b9ab18616d9b4d75a7251dc72a6b3d170d833f0fb0d261249e", func := "merestone/merestonelaw14.RecordSteps", spec := "recordSteps", inPlace := ["math/bits.Add64", "internal/bytealg.Compare"], unfollowed := true, recurses := true, plainKeys := false, apart := false, narrowed := true }
def RecordStepsUptoSaid : Prop := recordStepsUptoRow.holds Tryz.pinned (OpenSpec.upto recordStepsSpec)

/-- 'merestonelaw14.RecordBack', WHERE WHAT IT READS IS OF BULK AT MOST 1048576: true; the input reads as it did. -/
def recordBackUptoRow : OpenClaim := { program := "ytpkeacnacjnlcaagreat", sum := "72af6fda2fb933b9ab18616d9b4d75a7251dc72a6b3d170d833f0fb0d261249e", func := "merestone/merestonelaw14.RecordBack", spec := "recordBack", inPlace := ["math/bits.Add64", "internal/bytealg.Compare"], unfollowed := true, recurses := true, plainKeys := false, apart := false, narrowed := true }
def RecordBackUptoSaid : Prop := recordBackUptoRow.holds Tryz.pinned (OpenSpec.upto recordBackSpec)

/-- 'merestonelaw14.RecordPlans', WHERE WHAT IT READS IS OF BULK AT MOST 1048576: true; the input reads as it did. -/
def recordPlansUptoRow : OpenClaim := { program := "ytpkeacnacjnlcaagreat", sum := "72af6fda2fb933b9ab18616d9b4d75a7251dc72a6b3d170d833f0fb0d261249e", func := "merestone/merestonelaw14.RecordPlans", spec := "recordPlans", inPlace := ["math/bits.Add64", "internal/bytealg.Compare"], unfollowed := true, recurses := true, plainKeys := false, apart := false, narrowed := true }
def RecordPlansUptoSaid : Prop := recordPlansUptoRow.holds Tryz.pinned (OpenSpec.upto recordPlansSpec)

/-- 'merestonelaw14.RecordApply', WHERE WHAT IT READS IS OF BULK AT MOST 1048576: true; the input reads as it did. -/
def recordApplyUptoRow : OpenClaim := { program := "ytpkeacnacjnlcaagreat", sum := "72af6fda2fb933b9ab18616d9b4d75a7251dc72a6b3d170d833f0fb0d261249e", func := "merestone/merestonelaw14.RecordApply", spec := "recordApply", inPlace := ["math/bits.Add64", "internal/bytealg.Compare"], unfollowed := true, recurses := true, plainKeys := false, apart := false, narrowed := true }
def RecordApplyUptoSaid : Prop := recordApplyUptoRow.holds Tryz.pinned (OpenSpec.upto recordApplySpec)

end Rows
end Go.Proofs.YtpkeacnacjnlcaaGreat
