/-
  No cell of these rows narrows 'for every input' (looked for: loops, veiled, ifaces, maps, wideKeys, modest, calm, conditions, laid).
  DERIVED. THE GIVEN ROWS OF THIS SEAT. 15 by the template 'for every input the law returns true; each argument reads behind the call as it read before'; 0 by the template 'total and deterministic' (their statements: YtlifbhcmihnkpaaTotals.lean).
  GIVEN WITH THE SEED: the statements are not yours to turn. If you find one false, say at which input.
  Laid BY PROGRAM, IN A SANDBOX (cutbox-rows.mjs): the forced cells as the released guide's own fill.sh prints them over the translation 6b3a994058ac35e3… (all of the seat's roots in one cut). By AI agents, Wed Nov 11 2026. No macro, syntax, notation, axiom, sorry.
-/
import Derived.Test.YtlifbhcmihnkpaaChecked
import GoSem.Claim
import GoSem.ClaimJoined
import GoSem.ClaimMapViews
import Derived.JoinedTies
import Derived.KernelRfl
namespace Go.Proofs.Ytlifbhcmihnkpaa
/- THE CELL 'sum', in the pinned program and in every row, IS THE sha256 OF THE DUMP (.gsa) THAT YtlifbhcmihnkpaaProg.lean LOADS. Nothing in Lean hashes anything: it is a label: what it is worth is what the hold of that sum in a sandbox is worth. -/
noncomputable def Try.pinned : Pinned := { name := "ytlifbhcmihnkpaa", sum := "6b3a994058ac35e39eb5a8a15025daf619594ff38c42dd94357c391130427b45", checked := Try.checked }
namespace Rows
def none {H : Type} : Left H := { results := [], args := [] }

/-- 'cordwainlaw3.WireWrites': WHATEVER THE INPUT: true; the input reads as it did. -/
def wireWritesSpec : ChangeSpec := { name := "wireWrites", fn := fun _ => fun
  | [d] => { results := [.lit (.bool true)], args := [d] }
  | _ => none }
def wireWritesRow : OpenClaim := { program := "ytlifbhcmihnkpaa", sum := "6b3a994058ac35e39eb5a8a15025daf619594ff38c42dd94357c391130427b45", func := "cordwain/cordwainlaw3.WireWrites", spec := "wireWrites", plainKeys := false, apart := false }
def WireWritesSaid : Prop := wireWritesRow.holds Try.pinned (OpenSpec.ofChange wireWritesSpec)

/-- ITS FALSE NEIGHBOUR: 'it returns false'. Refute it at one input. -/
def wireWritesWrong : ChangeSpec := { name := "wireWrites", fn := fun _ => fun
  | [d] => { results := [.lit (.bool false)], args := [d] }
  | _ => none }
def WireWritesWrongFalsely : Prop := wireWritesRow.holds Try.pinned (OpenSpec.ofChange wireWritesWrong)

/-- 'cordwainlaw3.WireReads': WHATEVER THE INPUT: true; the input reads as it did. -/
def wireReadsSpec : ChangeSpec := { name := "wireReads", fn := fun _ => fun
  | [d1, d2, d3] => { results := [.lit (.bool true)], args := [d1, d2, d3] }
  | _ => none }
def wireReadsRow : OpenClaim := { program := "ytlifbhcmihnkpaa", sum := "6b3a994058ac35e39eb5a8a15025daf619594ff38c42dd94357c391130427b45", func := "cordwain/cordwainlaw3.WireReads", spec := "wireReads", unfollowed := true, recurses := true, plainKeys := false, apart := false }
def WireReadsSaid : Prop := wireReadsRow.holds Try.pinned (OpenSpec.ofChange wireReadsSpec)

/-- ITS FALSE NEIGHBOUR: 'it returns false'. Refute it at one input. -/
def wireReadsWrong : ChangeSpec := { name := "wireReads", fn := fun _ => fun
  | [d1, d2, d3] => { results := [.lit (.bool false)], args := [d1, d2, d3] }
  | _ => none }
def WireReadsWrongFalsely : Prop := wireReadsRow.holds Try.pinned (OpenSpec.ofChange wireReadsWrong)

/-- 'cordwainlaw3.WireLimits': WHATEVER THE INPUT: true; the input reads as it did. -/
def wireLimitsSpec : ChangeSpec := { name := "wireLimits", fn := fun _ => fun
  | [d1, d2, d3] => { results := [.lit (.bool true)], args := [d1, d2, d3] }
  | _ => none }
def wireLimitsRow : OpenClaim := { program := "ytlifbhcmihnkpaa", sum := "6b3a994058ac35e39eb5a8a15025daf619594ff38c42dd94357c391130427b45", func := "cordwain/cordwainlaw3.WireLimits", spec := "wireLimits", plainKeys := false, apart := false }
def WireLimitsSaid : Prop := wireLimitsRow.holds Try.pinned (OpenSpec.ofChange wireLimitsSpec)

/-- ITS FALSE NEIGHBOUR: 'it returns false'. Refute it at one input. -/
def wireLimitsWrong : ChangeSpec := { name := "wireLimits", fn := fun _ => fun
  | [d1, d2, d3] => { results := [.lit (.bool false)], args := [d1, d2, d3] }
  | _ => none }
def WireLimitsWrongFalsely : Prop := wireLimitsRow.holds Try.pinned (OpenSpec.ofChange wireLimitsWrong)

/-- 'cordwainlaw3.WireBack': WHATEVER THE INPUT: true; the input reads as it did. -/
def wireBackSpec : ChangeSpec := { name := "wireBack", fn := fun _ => fun
  | [d] => { results := [.lit (.bool true)], args := [d] }
  | _ => none }
def wireBackRow : OpenClaim := { program := "ytlifbhcmihnkpaa", sum := "6b3a994058ac35e39eb5a8a15025daf619594ff38c42dd94357c391130427b45", func := "cordwain/cordwainlaw3.WireBack", spec := "wireBack", plainKeys := false, apart := false }
def WireBackSaid : Prop := wireBackRow.holds Try.pinned (OpenSpec.ofChange wireBackSpec)

/-- ITS FALSE NEIGHBOUR: 'it returns false'. Refute it at one input. -/
def wireBackWrong : ChangeSpec := { name := "wireBack", fn := fun _ => fun
  | [d] => { results := [.lit (.bool false)], args := [d] }
  | _ => none }
def WireBackWrongFalsely : Prop := wireBackRow.holds Try.pinned (OpenSpec.ofChange wireBackWrong)

/-- 'cordwainlaw18.CommitsRecords': WHATEVER THE INPUT: true; the input reads as it did. -/
def commitsRecordsSpec : ChangeSpec := { name := "commitsRecords", fn := fun _ => fun
  | [d1, d2, d3] => { results := [.lit (.bool true)], args := [d1, d2, d3] }
  | _ => none }
def commitsRecordsRow : OpenClaim := { program := "ytlifbhcmihnkpaa", sum := "6b3a994058ac35e39eb5a8a15025daf619594ff38c42dd94357c391130427b45", func := "cordwain/cordwainlaw18.CommitsRecords", spec := "commitsRecords", plainKeys := false, apart := false }
def CommitsRecordsSaid : Prop := commitsRecordsRow.holds Try.pinned (OpenSpec.ofChange commitsRecordsSpec)

/-- ITS FALSE NEIGHBOUR: 'it returns false'. Refute it at one input. -/
def commitsRecordsWrong : ChangeSpec := { name := "commitsRecords", fn := fun _ => fun
  | [d1, d2, d3] => { results := [.lit (.bool false)], args := [d1, d2, d3] }
  | _ => none }
def CommitsRecordsWrongFalsely : Prop := commitsRecordsRow.holds Try.pinned (OpenSpec.ofChange commitsRecordsWrong)

/-- 'cordwainlaw18.CommitsDrops': WHATEVER THE INPUT: true; the input reads as it did. -/
def commitsDropsSpec : ChangeSpec := { name := "commitsDrops", fn := fun _ => fun
  | [d1, d2, d3] => { results := [.lit (.bool true)], args := [d1, d2, d3] }
  | _ => none }
def commitsDropsRow : OpenClaim := { program := "ytlifbhcmihnkpaa", sum := "6b3a994058ac35e39eb5a8a15025daf619594ff38c42dd94357c391130427b45", func := "cordwain/cordwainlaw18.CommitsDrops", spec := "commitsDrops", plainKeys := false, apart := false }
def CommitsDropsSaid : Prop := commitsDropsRow.holds Try.pinned (OpenSpec.ofChange commitsDropsSpec)

/-- ITS FALSE NEIGHBOUR: 'it returns false'. Refute it at one input. -/
def commitsDropsWrong : ChangeSpec := { name := "commitsDrops", fn := fun _ => fun
  | [d1, d2, d3] => { results := [.lit (.bool false)], args := [d1, d2, d3] }
  | _ => none }
def CommitsDropsWrongFalsely : Prop := commitsDropsRow.holds Try.pinned (OpenSpec.ofChange commitsDropsWrong)

/-- 'cordwainlaw18.CommitsBack': WHATEVER THE INPUT: true; the input reads as it did. -/
def commitsBackSpec : ChangeSpec := { name := "commitsBack", fn := fun _ => fun
  | [d] => { results := [.lit (.bool true)], args := [d] }
  | _ => none }
def commitsBackRow : OpenClaim := { program := "ytlifbhcmihnkpaa", sum := "6b3a994058ac35e39eb5a8a15025daf619594ff38c42dd94357c391130427b45", func := "cordwain/cordwainlaw18.CommitsBack", spec := "commitsBack", inPlace := ["maps.clone"], unfollowed := true, recurses := true, plainKeys := false, apart := false }
def CommitsBackSaid : Prop := commitsBackRow.holds Try.pinned (OpenSpec.ofChange commitsBackSpec)

/-- ITS FALSE NEIGHBOUR: 'it returns false'. Refute it at one input. -/
def commitsBackWrong : ChangeSpec := { name := "commitsBack", fn := fun _ => fun
  | [d] => { results := [.lit (.bool false)], args := [d] }
  | _ => none }
def CommitsBackWrongFalsely : Prop := commitsBackRow.holds Try.pinned (OpenSpec.ofChange commitsBackWrong)

/-- 'cordwainlaw5.BatchReads': WHATEVER THE INPUT: true; the input reads as it did. -/
def batchReadsSpec : ChangeSpec := { name := "batchReads", fn := fun _ => fun
  | [d] => { results := [.lit (.bool true)], args := [d] }
  | _ => none }
def batchReadsRow : OpenClaim := { program := "ytlifbhcmihnkpaa", sum := "6b3a994058ac35e39eb5a8a15025daf619594ff38c42dd94357c391130427b45", func := "cordwain/cordwainlaw5.BatchReads", spec := "batchReads", plainKeys := false, apart := false }
def BatchReadsSaid : Prop := batchReadsRow.holds Try.pinned (OpenSpec.ofChange batchReadsSpec)

/-- ITS FALSE NEIGHBOUR: 'it returns false'. Refute it at one input. -/
def batchReadsWrong : ChangeSpec := { name := "batchReads", fn := fun _ => fun
  | [d] => { results := [.lit (.bool false)], args := [d] }
  | _ => none }
def BatchReadsWrongFalsely : Prop := batchReadsRow.holds Try.pinned (OpenSpec.ofChange batchReadsWrong)

/-- 'cordwainlaw5.BatchLimits': WHATEVER THE INPUT: true; the input reads as it did. -/
def batchLimitsSpec : ChangeSpec := { name := "batchLimits", fn := fun _ => fun
  | [d1, d2, d3] => { results := [.lit (.bool true)], args := [d1, d2, d3] }
  | _ => none }
def batchLimitsRow : OpenClaim := { program := "ytlifbhcmihnkpaa", sum := "6b3a994058ac35e39eb5a8a15025daf619594ff38c42dd94357c391130427b45", func := "cordwain/cordwainlaw5.BatchLimits", spec := "batchLimits", plainKeys := false, apart := false }
def BatchLimitsSaid : Prop := batchLimitsRow.holds Try.pinned (OpenSpec.ofChange batchLimitsSpec)

/-- ITS FALSE NEIGHBOUR: 'it returns false'. Refute it at one input. -/
def batchLimitsWrong : ChangeSpec := { name := "batchLimits", fn := fun _ => fun
  | [d1, d2, d3] => { results := [.lit (.bool false)], args := [d1, d2, d3] }
  | _ => none }
def BatchLimitsWrongFalsely : Prop := batchLimitsRow.holds Try.pinned (OpenSpec.ofChange batchLimitsWrong)

/-- 'cordwainlaw5.BatchBack': WHATEVER THE INPUT: true; the input reads as it did. -/
def batchBackSpec : ChangeSpec := { name := "batchBack", fn := fun _ => fun
  | [d1, d2, d3, d4] => { results := [.lit (.bool true)], args := [d1, d2, d3, d4] }
  | _ => none }
def batchBackRow : OpenClaim := { program := "ytlifbhcmihnkpaa", sum := "6b3a994058ac35e39eb5a8a15025daf619594ff38c42dd94357c391130427b45", func := "cordwain/cordwainlaw5.BatchBack", spec := "batchBack", unfollowed := true, recurses := true, plainKeys := false, apart := false }
def BatchBackSaid : Prop := batchBackRow.holds Try.pinned (OpenSpec.ofChange batchBackSpec)

/-- ITS FALSE NEIGHBOUR: 'it returns false'. Refute it at one input. -/
def batchBackWrong : ChangeSpec := { name := "batchBack", fn := fun _ => fun
  | [d1, d2, d3, d4] => { results := [.lit (.bool false)], args := [d1, d2, d3, d4] }
  | _ => none }
def BatchBackWrongFalsely : Prop := batchBackRow.holds Try.pinned (OpenSpec.ofChange batchBackWrong)

/-- 'cordwainlaw5.BatchSame': WHATEVER THE INPUT: true; the input reads as it did. -/
def batchSameSpec : ChangeSpec := { name := "batchSame", fn := fun _ => fun
  | [d1, d2] => { results := [.lit (.bool true)], args := [d1, d2] }
  | _ => none }
def batchSameRow : OpenClaim := { program := "ytlifbhcmihnkpaa", sum := "6b3a994058ac35e39eb5a8a15025daf619594ff38c42dd94357c391130427b45", func := "cordwain/cordwainlaw5.BatchSame", spec := "batchSame", unfollowed := true, recurses := true, plainKeys := false, apart := false }
def BatchSameSaid : Prop := batchSameRow.holds Try.pinned (OpenSpec.ofChange batchSameSpec)

/-- ITS FALSE NEIGHBOUR: 'it returns false'. Refute it at one input. -/
def batchSameWrong : ChangeSpec := { name := "batchSame", fn := fun _ => fun
  | [d1, d2] => { results := [.lit (.bool false)], args := [d1, d2] }
  | _ => none }
def BatchSameWrongFalsely : Prop := batchSameRow.holds Try.pinned (OpenSpec.ofChange batchSameWrong)

/-- 'cordwainlaw5.BatchWrites': WHATEVER THE INPUT: true; the input reads as it did. -/
def batchWritesSpec : ChangeSpec := { name := "batchWrites", fn := fun _ => fun
  | [d] => { results := [.lit (.bool true)], args := [d] }
  | _ => none }
def batchWritesRow : OpenClaim := { program := "ytlifbhcmihnkpaa", sum := "6b3a994058ac35e39eb5a8a15025daf619594ff38c42dd94357c391130427b45", func := "cordwain/cordwainlaw5.BatchWrites", spec := "batchWrites", unfollowed := true, recurses := true, plainKeys := false, apart := false }
def BatchWritesSaid : Prop := batchWritesRow.holds Try.pinned (OpenSpec.ofChange batchWritesSpec)

/-- ITS FALSE NEIGHBOUR: 'it returns false'. Refute it at one input. -/
def batchWritesWrong : ChangeSpec := { name := "batchWrites", fn := fun _ => fun
  | [d] => { results := [.lit (.bool false)], args := [d] }
  | _ => none }
def BatchWritesWrongFalsely : Prop := batchWritesRow.holds Try.pinned (OpenSpec.ofChange batchWritesWrong)

/-- 'cordwainlaw5.BatchGaps': WHATEVER THE INPUT: true; the input reads as it did. -/
def batchGapsSpec : ChangeSpec := { name := "batchGaps", fn := fun _ => fun
  | [d1, d2] => { results := [.lit (.bool true)], args := [d1, d2] }
  | _ => none }
def batchGapsRow : OpenClaim := { program := "ytlifbhcmihnkpaa", sum := "6b3a994058ac35e39eb5a8a15025daf619594ff38c42dd94357c391130427b45", func := "cordwain/cordwainlaw5.BatchGaps", spec := "batchGaps", unfollowed := true, recurses := true, plainKeys := false, apart := false }
def BatchGapsSaid : Prop := batchGapsRow.holds Try.pinned (OpenSpec.ofChange batchGapsSpec)

/-- ITS FALSE NEIGHBOUR: 'it returns false'. Refute it at one input. -/
def batchGapsWrong : ChangeSpec := { name := "batchGaps", fn := fun _ => fun
  | [d1, d2] => { results := [.lit (.bool false)], args := [d1, d2] }
  | _ => none }
def BatchGapsWrongFalsely : Prop := batchGapsRow.holds Try.pinned (OpenSpec.ofChange batchGapsWrong)

/-- 'cordwainlaw5.BatchTorn': WHATEVER THE INPUT: true; the input reads as it did. -/
def batchTornSpec : ChangeSpec := { name := "batchTorn", fn := fun _ => fun
  | [d1, d2, d3] => { results := [.lit (.bool true)], args := [d1, d2, d3] }
  | _ => none }
def batchTornRow : OpenClaim := { program := "ytlifbhcmihnkpaa", sum := "6b3a994058ac35e39eb5a8a15025daf619594ff38c42dd94357c391130427b45", func := "cordwain/cordwainlaw5.BatchTorn", spec := "batchTorn", unfollowed := true, recurses := true, plainKeys := false, apart := false }
def BatchTornSaid : Prop := batchTornRow.holds Try.pinned (OpenSpec.ofChange batchTornSpec)

/-- ITS FALSE NEIGHBOUR: 'it returns false'. Refute it at one input. -/
def batchTornWrong : ChangeSpec := { name := "batchTorn", fn := fun _ => fun
  | [d1, d2, d3] => { results := [.lit (.bool false)], args := [d1, d2, d3] }
  | _ => none }
def BatchTornWrongFalsely : Prop := batchTornRow.holds Try.pinned (OpenSpec.ofChange batchTornWrong)

/-- 'cordwainlaw18.CommitsPlays': WHATEVER THE INPUT: true; the input reads as it did. -/
def commitsPlaysSpec : ChangeSpec := { name := "commitsPlays", fn := fun _ => fun
  | [d1, d2, d3] => { results := [.lit (.bool true)], args := [d1, d2, d3] }
  | _ => none }
def commitsPlaysRow : OpenClaim := { program := "ytlifbhcmihnkpaa", sum := "6b3a994058ac35e39eb5a8a15025daf619594ff38c42dd94357c391130427b45", func := "cordwain/cordwainlaw18.CommitsPlays", spec := "commitsPlays", unfollowed := true, recurses := true, plainKeys := false, apart := false }
def CommitsPlaysSaid : Prop := commitsPlaysRow.holds Try.pinned (OpenSpec.ofChange commitsPlaysSpec)

/-- ITS FALSE NEIGHBOUR: 'it returns false'. Refute it at one input. -/
def commitsPlaysWrong : ChangeSpec := { name := "commitsPlays", fn := fun _ => fun
  | [d1, d2, d3] => { results := [.lit (.bool false)], args := [d1, d2, d3] }
  | _ => none }
def CommitsPlaysWrongFalsely : Prop := commitsPlaysRow.holds Try.pinned (OpenSpec.ofChange commitsPlaysWrong)

/- THE SECOND FORM. 'bulk': how many values and letters a reading holds, each counted each time it is reached (what is shared counts as often as it is met; a slice's spare places count too). A statement '..UptoSaid' is the law's where the arguments, and the package variables that the reading takes, are together of bulk at most 1048576: NARROWER than '..Said'. Prove '..Said' where nothing that the law and all that it calls make is longer than what came in: it says more and counts as full. Else prove '..UptoSaid'. A law counts once. -/
mutual
def uptoBulk {H : Type} : DataW H → Nat
  | .lit (.string bytes) => bytes.length + 1
  | .lit _ => 1
  | .nil => 1
  | .ptr d => uptoBulk d + 1
  | .slice elems spare => uptoBulkAll elems + uptoBulkAll spare + 1
  | .agg parts => uptoBulkAll parts + 1
  | .iface _ d => uptoBulk d + 1
  | .map entries => uptoBulkEntries entries + 1
  | .held _ => 1
def uptoBulkAll {H : Type} : List (DataW H) → Nat
  | [] => 0
  | d :: r => uptoBulk d + uptoBulkAll r
def uptoBulkEntries {H : Type} : List (Lit × DataW H) → Nat
  | [] => 0
  | x :: r => uptoBulkEntry x + uptoBulkEntries r
def uptoBulkEntry {H : Type} : Lit × DataW H → Nat
  | (.string bytes, d) => bytes.length + uptoBulk d + 1
  | (_, d) => uptoBulk d + 1
 end
def uptoSmall : (H : Type) → List (DataW H) → Bool := fun _ ds => decide (uptoBulkAll ds ≤ 1048576)
def OpenSpec.upto (s : _root_.Go.ChangeSpec) : _root_.Go.OpenSpec := { _root_.Go.OpenSpec.ofChange s with cond := some uptoSmall }

/-- 'cordwainlaw3.WireWrites', WHERE WHAT IT READS IS OF BULK AT MOST 1048576: true; the input reads as it did. -/
def wireWritesUptoRow : OpenClaim := { program := "ytlifbhcmihnkpaa", sum := "6b3a994058ac35e39eb5a8a15025daf619594ff38c42dd94357c391130427b45", func := "cordwain/cordwainlaw3.WireWrites", spec := "wireWrites", plainKeys := false, apart := false, narrowed := true }
def WireWritesUptoSaid : Prop := wireWritesUptoRow.holds Try.pinned (OpenSpec.upto wireWritesSpec)

/-- 'cordwainlaw3.WireReads', WHERE WHAT IT READS IS OF BULK AT MOST 1048576: true; the input reads as it did. -/
def wireReadsUptoRow : OpenClaim := { program := "ytlifbhcmihnkpaa", sum := "6b3a994058ac35e39eb5a8a15025daf619594ff38c42dd94357c391130427b45", func := "cordwain/cordwainlaw3.WireReads", spec := "wireReads", unfollowed := true, recurses := true, plainKeys := false, apart := false, narrowed := true }
def WireReadsUptoSaid : Prop := wireReadsUptoRow.holds Try.pinned (OpenSpec.upto wireReadsSpec)

/-- 'cordwainlaw3.WireLimits', WHERE WHAT IT READS IS OF BULK AT MOST 1048576: true; the input reads as it did. -/
def wireLimitsUptoRow : OpenClaim := { program := "ytlifbhcmihnkpaa", sum := "6b3a994058ac35e39eb5a8a15025daf619594ff38c42dd94357c391130427b45", func := "cordwain/cordwainlaw3.WireLimits", spec := "wireLimits", plainKeys := false, apart := false, narrowed := true }
def WireLimitsUptoSaid : Prop := wireLimitsUptoRow.holds Try.pinned (OpenSpec.upto wireLimitsSpec)

/-- 'cordwainlaw3.WireBack', WHERE WHAT IT READS IS OF BULK AT MOST 1048576: true; the input reads as it did. -/
def wireBackUptoRow : OpenClaim := { program := "ytlifbhcmihnkpaa", sum := "6b3a994058ac35e39eb5a8a15025daf619594ff38c42dd94357c391130427b45", func := "cordwain/cordwainlaw3.WireBack", spec := "wireBack", plainKeys := false, apart := false, narrowed := true }
def WireBackUptoSaid : Prop := wireBackUptoRow.holds Try.pinned (OpenSpec.upto wireBackSpec)

/-- 'cordwainlaw18.CommitsRecords', WHERE WHAT IT READS IS OF BULK AT MOST 1048576: true; the input reads as it did. -/
def commitsRecordsUptoRow : OpenClaim := { program := "ytlifbhcmihnkpaa", sum := "6b3a994058ac35e39eb5a8a15025daf619594ff38c42dd94357c391130427b45", func := "cordwain/cordwainlaw18.CommitsRecords", spec := "commitsRecords", plainKeys := false, apart := false, narrowed := true }
def CommitsRecordsUptoSaid : Prop := commitsRecordsUptoRow.holds Try.pinned (OpenSpec.upto commitsRecordsSpec)

/-- 'cordwainlaw18.CommitsDrops', WHERE WHAT IT READS IS OF BULK AT MOST 1048576: true; the input reads as it did. -/
def commitsDropsUptoRow : OpenClaim := { program := "ytlifbhcmihnkpaa", sum := "6b3a994058ac35e39eb5a8a15025daf619594ff38c42dd94357c391130427b45", func := "cordwain/cordwainlaw18.CommitsDrops", spec := "commitsDrops", plainKeys := false, apart := false, narrowed := true }
def CommitsDropsUptoSaid : Prop := commitsDropsUptoRow.holds Try.pinned (OpenSpec.upto commitsDropsSpec)

/-- 'cordwainlaw18.CommitsBack', WHERE WHAT IT READS IS OF BULK AT MOST 1048576: true; the input reads as it did. -/
def commitsBackUptoRow : OpenClaim := { program := "ytlifbhcmihnkpaa", sum := "6b3a994058ac35e39eb5a8a15025daf619594ff38c42dd94357c391130427b45", func := "cordwain/cordwainlaw18.CommitsBack", spec := "commitsBack", inPlace := ["maps.clone"], unfollowed := true, recurses := true, plainKeys := false, apart := false, narrowed := true }
def CommitsBackUptoSaid : Prop := commitsBackUptoRow.holds Try.pinned (OpenSpec.upto commitsBackSpec)

/-- 'cordwainlaw5.BatchReads', WHERE WHAT IT READS IS OF BULK AT MOST 1048576: true; the input reads as it did. -/
def batchReadsUptoRow : OpenClaim := { program := "ytlifbhcmihnkpaa", sum := "6b3a994058ac35e39eb5a8a15025daf619594ff38c42dd94357c391130427b45", func := "cordwain/cordwainlaw5.BatchReads", spec := "batchReads", plainKeys := false, apart := false, narrowed := true }
def BatchReadsUptoSaid : Prop := batchReadsUptoRow.holds Try.pinned (OpenSpec.upto batchReadsSpec)

/-- 'cordwainlaw5.BatchLimits', WHERE WHAT IT READS IS OF BULK AT MOST 1048576: true; the input reads as it did. -/
def batchLimitsUptoRow : OpenClaim := { program := "ytlifbhcmihnkpaa", sum := "6b3a994058ac35e39eb5a8a15025daf619594ff38c42dd94357c391130427b45", func := "cordwain/cordwainlaw5.BatchLimits", spec := "batchLimits", plainKeys := false, apart := false, narrowed := true }
def BatchLimitsUptoSaid : Prop := batchLimitsUptoRow.holds Try.pinned (OpenSpec.upto batchLimitsSpec)

/-- 'cordwainlaw5.BatchBack', WHERE WHAT IT READS IS OF BULK AT MOST 1048576: true; the input reads as it did. -/
def batchBackUptoRow : OpenClaim := { program := "ytlifbhcmihnkpaa", sum := "6b3a994058ac35e39eb5a8a15025daf619594ff38c42dd94357c391130427b45", func := "cordwain/cordwainlaw5.BatchBack", spec := "batchBack", unfollowed := true, recurses := true, plainKeys := false, apart := false, narrowed := true }
def BatchBackUptoSaid : Prop := batchBackUptoRow.holds Try.pinned (OpenSpec.upto batchBackSpec)

/-- 'cordwainlaw5.BatchSame', WHERE WHAT IT READS IS OF BULK AT MOST 1048576: true; the input reads as it did. -/
def batchSameUptoRow : OpenClaim := { program := "ytlifbhcmihnkpaa", sum := "6b3a994058ac35e39eb5a8a15025daf619594ff38c42dd94357c391130427b45", func := "cordwain/cordwainlaw5.BatchSame", spec := "batchSame", unfollowed := true, recurses := true, plainKeys := false, apart := false, narrowed := true }
def BatchSameUptoSaid : Prop := batchSameUptoRow.holds Try.pinned (OpenSpec.upto batchSameSpec)

/-- 'cordwainlaw5.BatchWrites', WHERE WHAT IT READS IS OF BULK AT MOST 1048576: true; the input reads as it did. -/
def batchWritesUptoRow : OpenClaim := { program := "ytlifbhcmihnkpaa", sum := "6b3a994058ac35e39eb5a8a15025daf619594ff38c42dd94357c391130427b45", func := "cordwain/cordwainlaw5.BatchWrites", spec := "batchWrites", unfollowed := true, recurses := true, plainKeys := false, apart := false, narrowed := true }
def BatchWritesUptoSaid : Prop := batchWritesUptoRow.holds Try.pinned (OpenSpec.upto batchWritesSpec)

/-- 'cordwainlaw5.BatchGaps', WHERE WHAT IT READS IS OF BULK AT MOST 1048576: true; the input reads as it did. -/
def batchGapsUptoRow : OpenClaim := { program := "ytlifbhcmihnkpaa", sum := "6b3a994058ac35e39eb5a8a15025daf619594ff38c42dd94357c391130427b45", func := "cordwain/cordwainlaw5.BatchGaps", spec := "batchGaps", unfollowed := true, recurses := true, plainKeys := false, apart := false, narrowed := true }
def BatchGapsUptoSaid : Prop := batchGapsUptoRow.holds Try.pinned (OpenSpec.upto batchGapsSpec)

/-- 'cordwainlaw5.BatchTorn', WHERE WHAT IT READS IS OF BULK AT MOST 1048576: true; the input reads as it did. -/
def batchTornUptoRow : OpenClaim := { program := "ytlifbhcmihnkpaa", sum := "6b3a994058ac35e39eb5a8a15025daf619594ff38c42dd94357c391130427b45", func := "cordwain/cordwainlaw5.BatchTorn", spec := "batchTorn", unfollowed := true, recurses := true, plainKeys := false, apart := false, narrowed := true }
def BatchTornUptoSaid : Prop := batchTornUptoRow.holds Try.pinned (OpenSpec.upto batchTornSpec)

/-- 'cordwainlaw18.CommitsPlays', WHERE WHAT IT READS IS OF BULK AT MOST 1048576: true; the input reads as it did. -/
def commitsPlaysUptoRow : OpenClaim := { program := "ytlifbhcmihnkpaa", sum := "6b3a994058ac35e39eb5a8a15025daf619594ff38c42dd94357c391130427b45", func := "cordwain/cordwainlaw18.CommitsPlays", spec := "commitsPlays", unfollowed := true, recurses := true, plainKeys := false, apart := false, narrowed := true }
def CommitsPlaysUptoSaid : Prop := commitsPlaysUptoRow.holds Try.pinned (OpenSpec.upto commitsPlaysSpec)

end Rows
end Go.Proofs.Ytlifbhcmihnkpaa
