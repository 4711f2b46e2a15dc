/-
  No cell of these rows narrows 'for every input' (looked for: loops, veiled, ifaces, maps, wideKeys, modest, calm, conditions, laid).
  DERIVED. THE GIVEN ROWS OF THIS SEAT. 12 by the template 'for every input the law returns true; each argument reads behind the call as it read before'; 0 by the template 'total and deterministic' (their statements: YtnpjggcgnbgkjaaGreatTotals.lean).
  GIVEN WITH THE SEED: the statements are not yours to turn. If you find one false, say at which input.
  Laid BY PROGRAM, IN A SANDBOX (cutbox-rows.mjs): the forced cells as the released guide's own fill.sh prints them over the translation 23e9f13327f8355b… (all of the seat's roots in one cut). By AI agents, Wed Nov 11 2026. No macro, syntax, notation, axiom, sorry.
-/
import Derived.Test.YtnpjggcgnbgkjaaGreatChecked
import GoSem.Claim
import GoSem.ClaimJoined
import GoSem.ClaimMapViews
import Derived.JoinedTies
import Derived.KernelRfl
namespace Go.Proofs.YtnpjggcgnbgkjaaGreat
/- THE CELL 'sum', in the pinned program and in every row, IS THE sha256 OF THE DUMP (.gsa) THAT YtnpjggcgnbgkjaaGreatProg.lean LOADS. Nothing in Lean hashes anything: it is a label: what it is worth is what the hold of that sum in a sandbox is worth. -/
noncomputable def Tryz.pinned : Pinned := { name := "ytnpjggcgnbgkjaagreat", sum := "23e9f13327f8355bd7cf9f73dfba28ccff35a94454ea8b4204b3bd048f72a3ec", checked := Tryz.checked }
namespace Rows
def none {H : Type} : Left H := { results := [], args := [] }

/-- 'merestonelaw06.CutSplits': WHATEVER THE INPUT: true; the input reads as it did. -/
def cutSplitsSpec : ChangeSpec := { name := "cutSplits", fn := fun _ => fun
  | [d1, d2, d3, d4] => { results := [.lit (.bool true)], args := [d1, d2, d3, d4] }
  | _ => none }
def cutSplitsRow : OpenClaim := { program := "ytnpjggcgnbgkjaagreat", sum := "23e9f13327f8355bd7cf9f73dfba28ccff35a94454ea8b4204b3bd048f72a3ec", func := "merestone/merestonelaw06.CutSplits", spec := "cutSplits", inPlace := ["math/bits.Add64"], unfollowed := true, recurses := true, plainKeys := false, apart := false }
def CutSplitsSaid : Prop := cutSplitsRow.holds Tryz.pinned (OpenSpec.ofChange cutSplitsSpec)

/-- ITS FALSE NEIGHBOUR: 'it returns false'. Refute it at one input. -/
def cutSplitsWrong : ChangeSpec := { name := "cutSplits", fn := fun _ => fun
  | [d1, d2, d3, d4] => { results := [.lit (.bool false)], args := [d1, d2, d3, d4] }
  | _ => none }
def CutSplitsWrongFalsely : Prop := cutSplitsRow.holds Tryz.pinned (OpenSpec.ofChange cutSplitsWrong)

/-- 'merestonelaw06.CutStrips': WHATEVER THE INPUT: true; the input reads as it did. -/
def cutStripsSpec : ChangeSpec := { name := "cutStrips", fn := fun _ => fun
  | [d1, d2, d3] => { results := [.lit (.bool true)], args := [d1, d2, d3] }
  | _ => none }
def cutStripsRow : OpenClaim := { program := "ytnpjggcgnbgkjaagreat", sum := "23e9f13327f8355bd7cf9f73dfba28ccff35a94454ea8b4204b3bd048f72a3ec", func := "merestone/merestonelaw06.CutStrips", spec := "cutStrips", inPlace := ["math/bits.Add64"], unfollowed := true, recurses := true, plainKeys := false, apart := false }
def CutStripsSaid : Prop := cutStripsRow.holds Tryz.pinned (OpenSpec.ofChange cutStripsSpec)

/-- ITS FALSE NEIGHBOUR: 'it returns false'. Refute it at one input. -/
def cutStripsWrong : ChangeSpec := { name := "cutStrips", fn := fun _ => fun
  | [d1, d2, d3] => { results := [.lit (.bool false)], args := [d1, d2, d3] }
  | _ => none }
def CutStripsWrongFalsely : Prop := cutStripsRow.holds Tryz.pinned (OpenSpec.ofChange cutStripsWrong)

/-- 'merestonelaw14.RecordItems': WHATEVER THE INPUT: true; the input reads as it did. -/
def recordItemsSpec : ChangeSpec := { name := "recordItems", fn := fun _ => fun
  | [d] => { results := [.lit (.bool true)], args := [d] }
  | _ => none }
def recordItemsRow : OpenClaim := { program := "ytnpjggcgnbgkjaagreat", sum := "23e9f13327f8355bd7cf9f73dfba28ccff35a94454ea8b4204b3bd048f72a3ec", func := "merestone/merestonelaw14.RecordItems", spec := "recordItems", inPlace := ["math/bits.Add64", "internal/bytealg.Compare"], unfollowed := true, recurses := true, plainKeys := false, apart := false }
def RecordItemsSaid : Prop := recordItemsRow.holds Tryz.pinned (OpenSpec.ofChange recordItemsSpec)

/-- ITS FALSE NEIGHBOUR: 'it returns false'. Refute it at one input. -/
def recordItemsWrong : ChangeSpec := { name := "recordItems", fn := fun _ => fun
  | [d] => { results := [.lit (.bool false)], args := [d] }
  | _ => none }
def RecordItemsWrongFalsely : Prop := recordItemsRow.holds Tryz.pinned (OpenSpec.ofChange recordItemsWrong)

/-- 'merestonelaw14.RecordDelta': WHATEVER THE INPUT: true; the input reads as it did. -/
def recordDeltaSpec : ChangeSpec := { name := "recordDelta", fn := fun _ => fun
  | [d1, d2] => { results := [.lit (.bool true)], args := [d1, d2] }
  | _ => none }
def recordDeltaRow : OpenClaim := { program := "ytnpjggcgnbgkjaagreat", sum := "23e9f13327f8355bd7cf9f73dfba28ccff35a94454ea8b4204b3bd048f72a3ec", func := "merestone/merestonelaw14.RecordDelta", spec := "recordDelta", inPlace := ["math/bits.Add64", "internal/bytealg.Compare"], unfollowed := true, recurses := true, plainKeys := false, apart := false }
def RecordDeltaSaid : Prop := recordDeltaRow.holds Tryz.pinned (OpenSpec.ofChange recordDeltaSpec)

/-- ITS FALSE NEIGHBOUR: 'it returns false'. Refute it at one input. -/
def recordDeltaWrong : ChangeSpec := { name := "recordDelta", fn := fun _ => fun
  | [d1, d2] => { results := [.lit (.bool false)], args := [d1, d2] }
  | _ => none }
def RecordDeltaWrongFalsely : Prop := recordDeltaRow.holds Tryz.pinned (OpenSpec.ofChange recordDeltaWrong)

/-- 'merestonelaw14.RecordSteps': WHATEVER THE INPUT: true; the input reads as it did. -/
def recordStepsSpec : ChangeSpec := { name := "recordSteps", fn := fun _ => fun
  | [d1, d2] => { results := [.lit (.bool true)], args := [d1, d2] }
  | _ => none }
def recordStepsRow : OpenClaim := { program := "ytnpjggcgnbgkjaagreat", sum := "23e9f13327f8355bd7cf9f73dfba28ccff35a94454ea8b4204b3bd048f72a3ec", func := "merestone/merestonelaw14.RecordSteps", spec := "recordSteps", inPlace := ["math/bits.Add64", "internal/bytealg.Compare"], unfollowed := true, recurses := true, plainKeys := false, apart := false }
def RecordStepsSaid : Prop := recordStepsRow.holds Tryz.pinned (OpenSpec.ofChange recordStepsSpec)

/-- ITS FALSE NEIGHBOUR: 'it returns false'. Refute it at one input. -/
def recordStepsWrong : ChangeSpec := { name := "recordSteps", fn := fun _ => fun
  | [d1, d2] => { results := [.lit (.bool false)], args := [d1, d2] }
  | _ => none }
def RecordStepsWrongFalsely : Prop := recordStepsRow.holds Tryz.pinned (OpenSpec.ofChange recordStepsWrong)

/-- 'merestonelaw14.RecordBack': WHATEVER THE INPUT: true; the input reads as it did. -/
def recordBackSpec : ChangeSpec := { name := "recordBack", fn := fun _ => fun
  | [d1, d2, d3, d4] => { results := [.lit (.bool true)], args := [d1, d2, d3, d4] }
  | _ => none }
def recordBackRow : OpenClaim := { program := "ytnpjggcgnbgkjaagreat", sum := "23e9f13327f8355bd7cf9f73dfba28ccff35a94454ea8b4204b3bd048f72a3ec", func := "merestone/merestonelaw14.RecordBack", spec := "recordBack", inPlace := ["math/bits.Add64", "internal/bytealg.Compare"], unfollowed := true, recurses := true, plainKeys := false, apart := false }
def RecordBackSaid : Prop := recordBackRow.holds Tryz.pinned (OpenSpec.ofChange recordBackSpec)

/-- ITS FALSE NEIGHBOUR: 'it returns false'. Refute it at one input. -/
def recordBackWrong : ChangeSpec := { name := "recordBack", fn := fun _ => fun
  | [d1, d2, d3, d4] => { results := [.lit (.bool false)], args := [d1, d2, d3, d4] }
  | _ => none }
def RecordBackWrongFalsely : Prop := recordBackRow.holds Tryz.pinned (OpenSpec.ofChange recordBackWrong)

/-- 'merestonelaw14.RecordPlans': WHATEVER THE INPUT: true; the input reads as it did. -/
def recordPlansSpec : ChangeSpec := { name := "recordPlans", fn := fun _ => fun
  | [d] => { results := [.lit (.bool true)], args := [d] }
  | _ => none }
def recordPlansRow : OpenClaim := { program := "ytnpjggcgnbgkjaagreat", sum := "23e9f13327f8355bd7cf9f73dfba28ccff35a94454ea8b4204b3bd048f72a3ec", func := "merestone/merestonelaw14.RecordPlans", spec := "recordPlans", inPlace := ["math/bits.Add64", "internal/bytealg.Compare"], unfollowed := true, recurses := true, plainKeys := false, apart := false }
def RecordPlansSaid : Prop := recordPlansRow.holds Tryz.pinned (OpenSpec.ofChange recordPlansSpec)

/-- ITS FALSE NEIGHBOUR: 'it returns false'. Refute it at one input. -/
def recordPlansWrong : ChangeSpec := { name := "recordPlans", fn := fun _ => fun
  | [d] => { results := [.lit (.bool false)], args := [d] }
  | _ => none }
def RecordPlansWrongFalsely : Prop := recordPlansRow.holds Tryz.pinned (OpenSpec.ofChange recordPlansWrong)

/-- 'merestonelaw14.RecordApply': WHATEVER THE INPUT: true; the input reads as it did. -/
def recordApplySpec : ChangeSpec := { name := "recordApply", fn := fun _ => fun
  | [d1, d2] => { results := [.lit (.bool true)], args := [d1, d2] }
  | _ => none }
def recordApplyRow : OpenClaim := { program := "ytnpjggcgnbgkjaagreat", sum := "23e9f13327f8355bd7cf9f73dfba28ccff35a94454ea8b4204b3bd048f72a3ec", func := "merestone/merestonelaw14.RecordApply", spec := "recordApply", inPlace := ["math/bits.Add64", "internal/bytealg.Compare"], unfollowed := true, recurses := true, plainKeys := false, apart := false }
def RecordApplySaid : Prop := recordApplyRow.holds Tryz.pinned (OpenSpec.ofChange recordApplySpec)

/-- ITS FALSE NEIGHBOUR: 'it returns false'. Refute it at one input. -/
def recordApplyWrong : ChangeSpec := { name := "recordApply", fn := fun _ => fun
  | [d1, d2] => { results := [.lit (.bool false)], args := [d1, d2] }
  | _ => none }
def RecordApplyWrongFalsely : Prop := recordApplyRow.holds Tryz.pinned (OpenSpec.ofChange recordApplyWrong)

/-- 'merestonelaw20.TxnApplies': WHATEVER THE INPUT: true; the input reads as it did. -/
def txnAppliesSpec : ChangeSpec := { name := "txnApplies", fn := fun _ => fun
  | [d1, d2] => { results := [.lit (.bool true)], args := [d1, d2] }
  | _ => none }
def txnAppliesRow : OpenClaim := { program := "ytnpjggcgnbgkjaagreat", sum := "23e9f13327f8355bd7cf9f73dfba28ccff35a94454ea8b4204b3bd048f72a3ec", func := "merestone/merestonelaw20.TxnApplies", spec := "txnApplies", inPlace := ["math/bits.Add64"], unfollowed := true, recurses := true, plainKeys := false, apart := false }
def TxnAppliesSaid : Prop := txnAppliesRow.holds Tryz.pinned (OpenSpec.ofChange txnAppliesSpec)

/-- ITS FALSE NEIGHBOUR: 'it returns false'. Refute it at one input. -/
def txnAppliesWrong : ChangeSpec := { name := "txnApplies", fn := fun _ => fun
  | [d1, d2] => { results := [.lit (.bool false)], args := [d1, d2] }
  | _ => none }
def TxnAppliesWrongFalsely : Prop := txnAppliesRow.holds Tryz.pinned (OpenSpec.ofChange txnAppliesWrong)

/-- 'merestonelaw10.QueryLocates': WHATEVER THE INPUT: true; the input reads as it did. -/
def queryLocatesSpec : ChangeSpec := { name := "queryLocates", fn := fun _ => fun
  | [d1, d2] => { results := [.lit (.bool true)], args := [d1, d2] }
  | _ => none }
def queryLocatesRow : OpenClaim := { program := "ytnpjggcgnbgkjaagreat", sum := "23e9f13327f8355bd7cf9f73dfba28ccff35a94454ea8b4204b3bd048f72a3ec", func := "merestone/merestonelaw10.QueryLocates", spec := "queryLocates", inPlace := ["math/bits.Add64", "sync/atomic.AddInt64", "sync/atomic.LoadUint32", "(*internal/sync.Mutex).Lock", "internal/race.Disable", "sync/atomic.CompareAndSwapInt32", "internal/race.Enable", "internal/race.Acquire", "(*internal/sync.Mutex).lockSlow", "internal/sync.runtime_canSpin", "internal/sync.runtime_doSpin", "internal/sync.throw", "internal/sync.runtime_nanotime", "internal/sync.runtime_SemacquireMutex", "sync/atomic.AddInt32", "(*internal/sync.Mutex).Unlock", "internal/race.ReleaseMerge", "(*internal/sync.Mutex).unlockSlow", "internal/sync.fatal", "internal/sync.runtime_Semrelease", "sync/atomic.StoreUint32"], unfollowed := true, recurses := true, plainKeys := false, apart := false }
def QueryLocatesSaid : Prop := queryLocatesRow.holds Tryz.pinned (OpenSpec.ofChange queryLocatesSpec)

/-- ITS FALSE NEIGHBOUR: 'it returns false'. Refute it at one input. -/
def queryLocatesWrong : ChangeSpec := { name := "queryLocates", fn := fun _ => fun
  | [d1, d2] => { results := [.lit (.bool false)], args := [d1, d2] }
  | _ => none }
def QueryLocatesWrongFalsely : Prop := queryLocatesRow.holds Tryz.pinned (OpenSpec.ofChange queryLocatesWrong)

/-- 'merestonelaw10.QueryPairs': WHATEVER THE INPUT: true; the input reads as it did. -/
def queryPairsSpec : ChangeSpec := { name := "queryPairs", fn := fun _ => fun
  | [d] => { results := [.lit (.bool true)], args := [d] }
  | _ => none }
def queryPairsRow : OpenClaim := { program := "ytnpjggcgnbgkjaagreat", sum := "23e9f13327f8355bd7cf9f73dfba28ccff35a94454ea8b4204b3bd048f72a3ec", func := "merestone/merestonelaw10.QueryPairs", spec := "queryPairs", inPlace := ["math/bits.Add64", "sync/atomic.AddInt64", "sync/atomic.LoadUint32", "(*internal/sync.Mutex).Lock", "internal/race.Disable", "sync/atomic.CompareAndSwapInt32", "internal/race.Enable", "internal/race.Acquire", "(*internal/sync.Mutex).lockSlow", "internal/sync.runtime_canSpin", "internal/sync.runtime_doSpin", "internal/sync.throw", "internal/sync.runtime_nanotime", "internal/sync.runtime_SemacquireMutex", "sync/atomic.AddInt32", "(*internal/sync.Mutex).Unlock", "internal/race.ReleaseMerge", "(*internal/sync.Mutex).unlockSlow", "internal/sync.fatal", "internal/sync.runtime_Semrelease", "sync/atomic.StoreUint32"], unfollowed := true, recurses := true, plainKeys := false, apart := false }
def QueryPairsSaid : Prop := queryPairsRow.holds Tryz.pinned (OpenSpec.ofChange queryPairsSpec)

/-- ITS FALSE NEIGHBOUR: 'it returns false'. Refute it at one input. -/
def queryPairsWrong : ChangeSpec := { name := "queryPairs", fn := fun _ => fun
  | [d] => { results := [.lit (.bool false)], args := [d] }
  | _ => none }
def QueryPairsWrongFalsely : Prop := queryPairsRow.holds Tryz.pinned (OpenSpec.ofChange queryPairsWrong)

/-- 'merestonelaw10.QueryWindows': WHATEVER THE INPUT: true; the input reads as it did. -/
def queryWindowsSpec : ChangeSpec := { name := "queryWindows", fn := fun _ => fun
  | [d1, d2] => { results := [.lit (.bool true)], args := [d1, d2] }
  | _ => none }
def queryWindowsRow : OpenClaim := { program := "ytnpjggcgnbgkjaagreat", sum := "23e9f13327f8355bd7cf9f73dfba28ccff35a94454ea8b4204b3bd048f72a3ec", func := "merestone/merestonelaw10.QueryWindows", spec := "queryWindows", inPlace := ["math/bits.Add64", "sync/atomic.AddInt64", "sync/atomic.LoadUint32", "(*internal/sync.Mutex).Lock", "internal/race.Disable", "sync/atomic.CompareAndSwapInt32", "internal/race.Enable", "internal/race.Acquire", "(*internal/sync.Mutex).lockSlow", "internal/sync.runtime_canSpin", "internal/sync.runtime_doSpin", "internal/sync.throw", "internal/sync.runtime_nanotime", "internal/sync.runtime_SemacquireMutex", "sync/atomic.AddInt32", "(*internal/sync.Mutex).Unlock", "internal/race.ReleaseMerge", "(*internal/sync.Mutex).unlockSlow", "internal/sync.fatal", "internal/sync.runtime_Semrelease", "sync/atomic.StoreUint32"], unfollowed := true, recurses := true, plainKeys := false, apart := false }
def QueryWindowsSaid : Prop := queryWindowsRow.holds Tryz.pinned (OpenSpec.ofChange queryWindowsSpec)

/-- ITS FALSE NEIGHBOUR: 'it returns false'. Refute it at one input. -/
def queryWindowsWrong : ChangeSpec := { name := "queryWindows", fn := fun _ => fun
  | [d1, d2] => { results := [.lit (.bool false)], args := [d1, d2] }
  | _ => none }
def QueryWindowsWrongFalsely : Prop := queryWindowsRow.holds Tryz.pinned (OpenSpec.ofChange queryWindowsWrong)

/- THE SECOND FORM. 'bulk': how many values and letters a reading holds, each counted each time it is reached (what is shared counts as often as it is met; a slice's spare places count too). A statement '..UptoSaid' is the law's where the arguments, and the package variables that the reading takes, are together of bulk at most 1048576: NARROWER than '..Said'. Prove '..Said' where nothing that the law and all that it calls make is longer than what came in: it says more and counts as full. Else prove '..UptoSaid'. A law counts once. -/
mutual
def uptoBulk {H : Type} : DataW H → Nat
  | .lit (.string bytes) => bytes.length + 1
  | .lit _ => 1
  | .nil => 1
  | .ptr d => uptoBulk d + 1
  | .slice elems spare => uptoBulkAll elems + uptoBulkAll spare + 1
  | .agg parts => uptoBulkAll parts + 1
  | .iface _ d => uptoBulk d + 1
  | .map entries => uptoBulkEntries entries + 1
  | .held _ => 1
def uptoBulkAll {H : Type} : List (DataW H) → Nat
  | [] => 0
  | d :: r => uptoBulk d + uptoBulkAll r
def uptoBulkEntries {H : Type} : List (Lit × DataW H) → Nat
  | [] => 0
  | x :: r => uptoBulkEntry x + uptoBulkEntries r
def uptoBulkEntry {H : Type} : Lit × DataW H → Nat
  | (.string bytes, d) => bytes.length + uptoBulk d + 1
  | (_, d) => uptoBulk d + 1
 end
def uptoSmall : (H : Type) → List (DataW H) → Bool := fun _ ds => decide (uptoBulkAll ds ≤ 1048576)
def OpenSpec.upto (s : _root_.Go.ChangeSpec) : _root_.Go.OpenSpec := { _root_.Go.OpenSpec.ofChange s with cond := some uptoSmall }

/-- 'merestonelaw06.CutSplits', WHERE WHAT IT READS IS OF BULK AT MOST 1048576: true; the input reads as it did. -/
def cutSplitsUptoRow : OpenClaim := { program := "ytnpjggcgnbgkjaagreat", sum := "23e9f13327f8355bd7cf9f73dfba28ccff35a94454ea8b4204b3bd048f72a3ec", func := "merestone/merestonelaw06.CutSplits", spec := "cutSplits", inPlace := ["math/bits.Add64"], unfollowed := true, recurses := true, plainKeys := false, apart := false, narrowed := true }
def CutSplitsUptoSaid : Prop := cutSplitsUptoRow.holds Tryz.pinned (OpenSpec.upto cutSplitsSpec)

/-- 'merestonelaw06.CutStrips', WHERE WHAT IT READS IS OF BULK AT MOST 1048576: true; the input reads as it did. -/
def cutStripsUptoRow : OpenClaim := { program := "ytnpjggcgnbgkjaagreat", sum := "23e9f13327f8355bd7cf9f73dfba28ccff35a94454ea8b4204b3bd048f72a3ec", func := "merestone/merestonelaw06.CutStrips", spec := "cutStrips", inPlace := ["math/bits.Add64"], unfollowed := true, recurses := true, plainKeys := false, apart := false, narrowed := true }
def CutStripsUptoSaid : Prop := cutStripsUptoRow.holds Tryz.pinned (OpenSpec.upto cutStripsSpec)

/-- 'merestonelaw14.RecordItems', WHERE WHAT IT READS IS OF BULK AT MOST 1048576: true; the input reads as it did. -/
def recordItemsUptoRow : OpenClaim := { program := "ytnpjggcgnbgkjaagreat", sum := "23e9f13327f8355bd7cf9f73dfba28ccff35a94454ea8b4204b3bd048f72a3ec", func := "merestone/merestonelaw14.RecordItems", spec := "recordItems", inPlace := ["math/bits.Add64", "internal/bytealg.Compare"], unfollowed := true, recurses := true, plainKeys := false, apart := false, narrowed := true }
def RecordItemsUptoSaid : Prop := recordItemsUptoRow.holds Tryz.pinned (OpenSpec.upto recordItemsSpec)

/-- 'merestonelaw14.RecordDelta', WHERE WHAT IT READS IS OF BULK AT MOST 1048576: true; the input reads as it did. -/
def recordDeltaUptoRow : OpenClaim := { program := "ytnpjggcgnbgkjaagreat", sum := "23e9f13327f8355bd7cf9f73dfba28ccff35a94454ea8b4204b3bd048f72a3ec", func := "merestone/merestonelaw14.RecordDelta", spec := "recordDelta", inPlace := ["math/bits.Add64", "internal/bytealg.Compare"], unfollowed := true, recurses := true, plainKeys := false, apart := false, narrowed := true }
def RecordDeltaUptoSaid : Prop := recordDeltaUptoRow.holds Tryz.pinned (OpenSpec.upto recordDeltaSpec)

/-- 'merestonelaw14.RecordSteps', WHERE WHAT IT READS IS OF BULK AT MOST 1048576: true; the input reads as it did. -/
def recordStepsUptoRow : OpenClaim := { program := "ytnpjggcgnbgkjaagreat", sum := "23e9f13327f8355bd7cf9f73dfba28ccff35a94454ea8b4204b3bd048f72a3ec", func := "merestone/merestonelaw14.RecordSteps", spec := "recordSteps", inPlace := ["math/bits.Add64", "internal/bytealg.Compare"], unfollowed := true, recurses := true, plainKeys := false, apart := false, narrowed := true }
def RecordStepsUptoSaid : Prop := recordStepsUptoRow.holds Tryz.pinned (OpenSpec.upto recordStepsSpec)

/-- 'merestonelaw14.RecordBack', WHERE WHAT IT READS IS OF BULK AT MOST 1048576: true; the input reads as it did. -/
def recordBackUptoRow : OpenClaim := { program := "ytnpjggcgnbgkjaagreat", sum := "23e9f13327f8355bd7cf9f73dfba28ccff35a94454ea8b4204b3bd048f72a3ec", func := "merestone/merestonelaw14.RecordBack", spec := "recordBack", inPlace := ["math/bits.Add64", "internal/bytealg.Compare"], unfollowed := true, recurses := true, plainKeys := false, apart := false, narrowed := true }
def RecordBackUptoSaid : Prop := recordBackUptoRow.holds Tryz.pinned (OpenSpec.upto recordBackSpec)

/-- 'merestonelaw14.RecordPlans', WHERE WHAT IT READS IS OF BULK AT MOST 1048576: true; the input reads as it did. -/
def recordPlansUptoRow : OpenClaim := { program := "ytnpjggcgnbgkjaagreat", sum := "23e9f13327f8355bd7cf9f73dfba28ccff35a94454ea8b4204b3bd048f72a3ec", func := "merestone/merestonelaw14.RecordPlans", spec := "recordPlans", inPlace := ["math/bits.Add64", "internal/bytealg.Compare"], unfollowed := true, recurses := true, plainKeys := false, apart := false, narrowed := true }
def RecordPlansUptoSaid : Prop := recordPlansUptoRow.holds Tryz.pinned (OpenSpec.upto recordPlansSpec)

/-- 'merestonelaw14.RecordApply', WHERE WHAT IT READS IS OF BULK AT MOST 1048576: true; the input reads as it did. -/
def recordApplyUptoRow : OpenClaim := { program := "ytnpjggcgnbgkjaagreat", sum := "23e9f13327f8355bd7cf9f73dfba28ccff35a94454ea8b4204b3bd048f72a3ec", func := "merestone/merestonelaw14.RecordApply", spec := "recordApply", inPlace := ["math/bits.Add64", "internal/bytealg.Compare"], unfollowed := true, recurses := true, plainKeys := false, apart := false, narrowed := true }
def RecordApplyUptoSaid : Prop := recordApplyUptoRow.holds Tryz.pinned (OpenSpec.upto recordApplySpec)

/-- 'merestonelaw20.TxnApplies', WHERE WHAT IT READS IS OF BULK AT MOST 1048576: true; the input reads as it did. -/
def txnAppliesUptoRow : OpenClaim := { program := "ytnpjggcgnbgkjaagreat", sum := "23e9f13327f8355bd7cf9f73dfba28ccff35a94454ea8b4204b3bd048f72a3ec", func := "merestone/merestonelaw20.TxnApplies", spec := "txnApplies", inPlace := ["math/bits.Add64"], unfollowed := true, recurses := true, plainKeys := false, apart := false, narrowed := true }
def TxnAppliesUptoSaid : Prop := txnAppliesUptoRow.holds Tryz.pinned (OpenSpec.upto txnAppliesSpec)

/-- 'merestonelaw10.QueryLocates', WHERE WHAT IT READS IS OF BULK AT MOST 1048576: true; the input reads as it did. -/
def queryLocatesUptoRow : OpenClaim := { program := "ytnpjggcgnbgkjaagreat", sum := "23e9f13327f8355bd7cf9f73dfba28ccff35a94454ea8b4204b3bd048f72a3ec", func := "merestone/merestonelaw10.QueryLocates", spec := "queryLocates", inPlace := ["math/bits.Add64", "sync/atomic.AddInt64", "sync/atomic.LoadUint32", "(*internal/sync.Mutex).Lock", "internal/race.Disable", "sync/atomic.CompareAndSwapInt32", "internal/race.Enable", "internal/race.Acquire", "(*internal/sync.Mutex).lockSlow", "internal/sync.runtime_canSpin", "internal/sync.runtime_doSpin", "internal/sync.throw", "internal/sync.runtime_nanotime", "internal/sync.runtime_SemacquireMutex", "sync/atomic.AddInt32", "(*internal/sync.Mutex).Unlock", "internal/race.ReleaseMerge", "(*internal/sync.Mutex).unlockSlow", "internal/sync.fatal", "internal/sync.runtime_Semrelease", "sync/atomic.StoreUint32"], unfollowed := true, recurses := true, plainKeys := false, apart := false, narrowed := true }
def QueryLocatesUptoSaid : Prop := queryLocatesUptoRow.holds Tryz.pinned (OpenSpec.upto queryLocatesSpec)

/-- 'merestonelaw10.QueryPairs', WHERE WHAT IT READS IS OF BULK AT MOST 1048576: true; the input reads as it did. -/
def queryPairsUptoRow : OpenClaim := { program := "ytnpjggcgnbgkjaagreat", sum := "23e9f13327f8355bd7cf9f73dfba28ccff35a94454ea8b4204b3bd048f72a3ec", func := "merestone/merestonelaw10.QueryPairs", spec := "queryPairs", inPlace := ["math/bits.Add64", "sync/atomic.AddInt64", "sync/atomic.LoadUint32", "(*internal/sync.Mutex).Lock", "internal/race.Disable", "sync/atomic.CompareAndSwapInt32", "internal/race.Enable", "internal/race.Acquire", "(*internal/sync.Mutex).lockSlow", "internal/sync.runtime_canSpin", "internal/sync.runtime_doSpin", "internal/sync.throw", "internal/sync.runtime_nanotime", "internal/sync.runtime_SemacquireMutex", "sync/atomic.AddInt32", "(*internal/sync.Mutex).Unlock", "internal/race.ReleaseMerge", "(*internal/sync.Mutex).unlockSlow", "internal/sync.fatal", "internal/sync.runtime_Semrelease", "sync/atomic.StoreUint32"], unfollowed := true, recurses := true, plainKeys := false, apart := false, narrowed := true }
def QueryPairsUptoSaid : Prop := queryPairsUptoRow.holds Tryz.pinned (OpenSpec.upto queryPairsSpec)

/-- 'merestonelaw10.QueryWindows', WHERE WHAT IT READS IS OF BULK AT MOST 1048576: true; the input reads as it did. -/
def queryWindowsUptoRow : OpenClaim := { program := "ytnpjggcgnbgkjaagreat", sum := "23e9f13327f8355bd7cf9f73dfba28ccff35a94454ea8b4204b3bd048f72a3ec", func := "merestone/merestonelaw10.QueryWindows", spec := "queryWindows", inPlace := ["math/bits.Add64", "sync/atomic.AddInt64", "sync/atomic.LoadUint32", "(*internal/sync.Mutex).Lock", "internal/race.Disable", "sync/atomic.CompareAndSwapInt32", "internal/race.Enable", "internal/race.Acquire", "(*internal/sync.Mutex).lockSlow", "internal/sync.runtime_canSpin", "internal/sync.runtime_doSpin", "internal/sync.throw", "internal/sync.runtime_nanotime", "internal/sync.runtime_SemacquireMutex", "sync/atomic.AddInt32", "(*internal/sync.Mutex).Unlock", "internal/race.ReleaseMerge", "(*internal/sync.Mutex).unlockSlow", "internal/sync.fatal", "internal/sync.runtime_Semrelease", "sync/atomic.StoreUint32"], unfollowed := true, recurses := true, plainKeys := false, apart := false, narrowed := true }
def QueryWindowsUptoSaid : Prop := queryWindowsUptoRow.holds Tryz.pinned (OpenSpec.upto queryWindowsSpec)

end Rows
end Go.Proofs.YtnpjggcgnbgkjaaGreat
