/-
  No cell of these rows narrows 'for every input' (looked for: loops, veiled, ifaces, maps, wideKeys, modest, calm, conditions, laid).
  DERIVED. THE GIVEN ROWS OF THIS SEAT. 8 by the template 'for every input the law returns true; each argument reads behind the call as it read before'; 0 by the template 'total and deterministic' (their statements: YtlcanameloklbaaTotals.lean).
  GIVEN WITH THE SEED: the statements are not yours to turn. If you find one false, say at which input.
  Laid BY PROGRAM, IN A SANDBOX (cutbox-rows.mjs): the forced cells as the released guide's own fill.sh prints them over the translation a1eadbe6ced496d2… (all of the seat's roots in one cut). By AI agents, Wed Nov 11 2026. No macro, syntax, notation, axiom, sorry.
-/
import Derived.Test.YtlcanameloklbaaChecked
import GoSem.Claim
import GoSem.ClaimJoined
import GoSem.ClaimMapViews
import Derived.JoinedTies
import Derived.KernelRfl
namespace Go.Proofs.Ytlcanameloklbaa
/- THE CELL 'sum', in the pinned program and in every row, IS THE sha256 OF THE DUMP (.gsa) THAT YtlcanameloklbaaProg.lean LOADS. Nothing in Lean hashes anything: it is a label: what it is worth is what the hold of that sum in a sandbox is worth. -/
noncomputable def Try.pinned : Pinned := { name := "ytlcanameloklbaa", sum := "a1eadbe6ced496d2e5952b8cb0b78037c06f4c26776d25646d6f6eb739908c2d", checked := Try.checked }
namespace Rows
def none {H : Type} : Left H := { results := [], args := [] }

/-- 'cordwainlaw3.WireWrites': WHATEVER THE INPUT: true; the input reads as it did. -/
def wireWritesSpec : ChangeSpec := { name := "wireWrites", fn := fun _ => fun
  | [d] => { results := [.lit (.bool true)], args := [d] }
  | _ => none }
def wireWritesRow : OpenClaim := { program := "ytlcanameloklbaa", sum := "a1eadbe6ced496d2e5952b8cb0b78037c06f4c26776d25646d6f6eb739908c2d", func := "cordwain/cordwainlaw3.WireWrites", spec := "wireWrites", apart := false }
def WireWritesSaid : Prop := wireWritesRow.holds Try.pinned (OpenSpec.ofChange wireWritesSpec)

/-- ITS FALSE NEIGHBOUR: 'it returns false'. Refute it at one input. -/
def wireWritesWrong : ChangeSpec := { name := "wireWrites", fn := fun _ => fun
  | [d] => { results := [.lit (.bool false)], args := [d] }
  | _ => none }
def WireWritesWrongFalsely : Prop := wireWritesRow.holds Try.pinned (OpenSpec.ofChange wireWritesWrong)

/-- 'cordwainlaw3.WireReads': WHATEVER THE INPUT: true; the input reads as it did. -/
def wireReadsSpec : ChangeSpec := { name := "wireReads", fn := fun _ => fun
  | [d1, d2, d3] => { results := [.lit (.bool true)], args := [d1, d2, d3] }
  | _ => none }
def wireReadsRow : OpenClaim := { program := "ytlcanameloklbaa", sum := "a1eadbe6ced496d2e5952b8cb0b78037c06f4c26776d25646d6f6eb739908c2d", func := "cordwain/cordwainlaw3.WireReads", spec := "wireReads", unfollowed := true, recurses := true, apart := false }
def WireReadsSaid : Prop := wireReadsRow.holds Try.pinned (OpenSpec.ofChange wireReadsSpec)

/-- ITS FALSE NEIGHBOUR: 'it returns false'. Refute it at one input. -/
def wireReadsWrong : ChangeSpec := { name := "wireReads", fn := fun _ => fun
  | [d1, d2, d3] => { results := [.lit (.bool false)], args := [d1, d2, d3] }
  | _ => none }
def WireReadsWrongFalsely : Prop := wireReadsRow.holds Try.pinned (OpenSpec.ofChange wireReadsWrong)

/-- 'cordwainlaw3.WireLimits': WHATEVER THE INPUT: true; the input reads as it did. -/
def wireLimitsSpec : ChangeSpec := { name := "wireLimits", fn := fun _ => fun
  | [d1, d2, d3] => { results := [.lit (.bool true)], args := [d1, d2, d3] }
  | _ => none }
def wireLimitsRow : OpenClaim := { program := "ytlcanameloklbaa", sum := "a1eadbe6ced496d2e5952b8cb0b78037c06f4c26776d25646d6f6eb739908c2d", func := "cordwain/cordwainlaw3.WireLimits", spec := "wireLimits", apart := false }
def WireLimitsSaid : Prop := wireLimitsRow.holds Try.pinned (OpenSpec.ofChange wireLimitsSpec)

/-- ITS FALSE NEIGHBOUR: 'it returns false'. Refute it at one input. -/
def wireLimitsWrong : ChangeSpec := { name := "wireLimits", fn := fun _ => fun
  | [d1, d2, d3] => { results := [.lit (.bool false)], args := [d1, d2, d3] }
  | _ => none }
def WireLimitsWrongFalsely : Prop := wireLimitsRow.holds Try.pinned (OpenSpec.ofChange wireLimitsWrong)

/-- 'cordwainlaw3.WireBack': WHATEVER THE INPUT: true; the input reads as it did. -/
def wireBackSpec : ChangeSpec := { name := "wireBack", fn := fun _ => fun
  | [d] => { results := [.lit (.bool true)], args := [d] }
  | _ => none }
def wireBackRow : OpenClaim := { program := "ytlcanameloklbaa", sum := "a1eadbe6ced496d2e5952b8cb0b78037c06f4c26776d25646d6f6eb739908c2d", func := "cordwain/cordwainlaw3.WireBack", spec := "wireBack", apart := false }
def WireBackSaid : Prop := wireBackRow.holds Try.pinned (OpenSpec.ofChange wireBackSpec)

/-- ITS FALSE NEIGHBOUR: 'it returns false'. Refute it at one input. -/
def wireBackWrong : ChangeSpec := { name := "wireBack", fn := fun _ => fun
  | [d] => { results := [.lit (.bool false)], args := [d] }
  | _ => none }
def WireBackWrongFalsely : Prop := wireBackRow.holds Try.pinned (OpenSpec.ofChange wireBackWrong)

/-- 'cordwainlaw21.TopicsPlays': WHATEVER THE INPUT: true; the input reads as it did. -/
def topicsPlaysSpec : ChangeSpec := { name := "topicsPlays", fn := fun _ => fun
  | [d1, d2] => { results := [.lit (.bool true)], args := [d1, d2] }
  | _ => none }
def topicsPlaysRow : OpenClaim := { program := "ytlcanameloklbaa", sum := "a1eadbe6ced496d2e5952b8cb0b78037c06f4c26776d25646d6f6eb739908c2d", func := "cordwain/cordwainlaw21.TopicsPlays", spec := "topicsPlays", inPlace := ["maps.clone"], unfollowed := true, recurses := true, apart := false }
def TopicsPlaysSaid : Prop := topicsPlaysRow.holds Try.pinned (OpenSpec.ofChange topicsPlaysSpec)

/-- ITS FALSE NEIGHBOUR: 'it returns false'. Refute it at one input. -/
def topicsPlaysWrong : ChangeSpec := { name := "topicsPlays", fn := fun _ => fun
  | [d1, d2] => { results := [.lit (.bool false)], args := [d1, d2] }
  | _ => none }
def TopicsPlaysWrongFalsely : Prop := topicsPlaysRow.holds Try.pinned (OpenSpec.ofChange topicsPlaysWrong)

/-- 'cordwainlaw21.TopicsNothing': WHATEVER THE INPUT: true; the input reads as it did. -/
def topicsNothingSpec : ChangeSpec := { name := "topicsNothing", fn := fun _ => fun
  | [d1, d2] => { results := [.lit (.bool true)], args := [d1, d2] }
  | _ => none }
def topicsNothingRow : OpenClaim := { program := "ytlcanameloklbaa", sum := "a1eadbe6ced496d2e5952b8cb0b78037c06f4c26776d25646d6f6eb739908c2d", func := "cordwain/cordwainlaw21.TopicsNothing", spec := "topicsNothing", inPlace := ["maps.clone"], unfollowed := true, recurses := true, apart := false }
def TopicsNothingSaid : Prop := topicsNothingRow.holds Try.pinned (OpenSpec.ofChange topicsNothingSpec)

/-- ITS FALSE NEIGHBOUR: 'it returns false'. Refute it at one input. -/
def topicsNothingWrong : ChangeSpec := { name := "topicsNothing", fn := fun _ => fun
  | [d1, d2] => { results := [.lit (.bool false)], args := [d1, d2] }
  | _ => none }
def TopicsNothingWrongFalsely : Prop := topicsNothingRow.holds Try.pinned (OpenSpec.ofChange topicsNothingWrong)

/-- 'cordwainlaw21.TopicsFull': WHATEVER THE INPUT: true; the input reads as it did. -/
def topicsFullSpec : ChangeSpec := { name := "topicsFull", fn := fun _ => fun
  | [d1, d2] => { results := [.lit (.bool true)], args := [d1, d2] }
  | _ => none }
def topicsFullRow : OpenClaim := { program := "ytlcanameloklbaa", sum := "a1eadbe6ced496d2e5952b8cb0b78037c06f4c26776d25646d6f6eb739908c2d", func := "cordwain/cordwainlaw21.TopicsFull", spec := "topicsFull", inPlace := ["maps.clone"], unfollowed := true, recurses := true, apart := false }
def TopicsFullSaid : Prop := topicsFullRow.holds Try.pinned (OpenSpec.ofChange topicsFullSpec)

/-- ITS FALSE NEIGHBOUR: 'it returns false'. Refute it at one input. -/
def topicsFullWrong : ChangeSpec := { name := "topicsFull", fn := fun _ => fun
  | [d1, d2] => { results := [.lit (.bool false)], args := [d1, d2] }
  | _ => none }
def TopicsFullWrongFalsely : Prop := topicsFullRow.holds Try.pinned (OpenSpec.ofChange topicsFullWrong)

/-- 'cordwainlaw21.TopicsCrash': WHATEVER THE INPUT: true; the input reads as it did. -/
def topicsCrashSpec : ChangeSpec := { name := "topicsCrash", fn := fun _ => fun
  | [d1, d2, d3] => { results := [.lit (.bool true)], args := [d1, d2, d3] }
  | _ => none }
def topicsCrashRow : OpenClaim := { program := "ytlcanameloklbaa", sum := "a1eadbe6ced496d2e5952b8cb0b78037c06f4c26776d25646d6f6eb739908c2d", func := "cordwain/cordwainlaw21.TopicsCrash", spec := "topicsCrash", inPlace := ["maps.clone"], unfollowed := true, recurses := true, apart := false }
def TopicsCrashSaid : Prop := topicsCrashRow.holds Try.pinned (OpenSpec.ofChange topicsCrashSpec)

/-- ITS FALSE NEIGHBOUR: 'it returns false'. Refute it at one input. -/
def topicsCrashWrong : ChangeSpec := { name := "topicsCrash", fn := fun _ => fun
  | [d1, d2, d3] => { results := [.lit (.bool false)], args := [d1, d2, d3] }
  | _ => none }
def TopicsCrashWrongFalsely : Prop := topicsCrashRow.holds Try.pinned (OpenSpec.ofChange topicsCrashWrong)

/- THE SECOND FORM. 'bulk': how many values and letters a reading holds, each counted each time it is reached (what is shared counts as often as it is met; a slice's spare places count too). A statement '..UptoSaid' is the law's where the arguments, and the package variables that the reading takes, are together of bulk at most 1048576: NARROWER than '..Said'. Prove '..Said' where nothing that the law and all that it calls make is longer than what came in: it says more and counts as full. Else prove '..UptoSaid'. A law counts once. -/
mutual
def uptoBulk {H : Type} : DataW H → Nat
  | .lit (.string bytes) => bytes.length + 1
  | .lit _ => 1
  | .nil => 1
  | .ptr d => uptoBulk d + 1
  | .slice elems spare => uptoBulkAll elems + uptoBulkAll spare + 1
  | .agg parts => uptoBulkAll parts + 1
  | .iface _ d => uptoBulk d + 1
  | .map entries => uptoBulkEntries entries + 1
  | .held _ => 1
def uptoBulkAll {H : Type} : List (DataW H) → Nat
  | [] => 0
  | d :: r => uptoBulk d + uptoBulkAll r
def uptoBulkEntries {H : Type} : List (Lit × DataW H) → Nat
  | [] => 0
  | x :: r => uptoBulkEntry x + uptoBulkEntries r
def uptoBulkEntry {H : Type} : Lit × DataW H → Nat
  | (.string bytes, d) => bytes.length + uptoBulk d + 1
  | (_, d) => uptoBulk d + 1
 end
def uptoSmall : (H : Type) → List (DataW H) → Bool := fun _ ds => decide (uptoBulkAll ds ≤ 1048576)
def OpenSpec.upto (s : _root_.Go.ChangeSpec) : _root_.Go.OpenSpec := { _root_.Go.OpenSpec.ofChange s with cond := some uptoSmall }

/-- 'cordwainlaw3.WireWrites', WHERE WHAT IT READS IS OF BULK AT MOST 1048576: true; the input reads as it did. -/
def wireWritesUptoRow : OpenClaim := { program := "ytlcanameloklbaa", sum := "a1eadbe6ced496d2e5952b8cb0b78037c06f4c26776d25646d6f6eb739908c2d", func := "cordwain/cordwainlaw3.WireWrites", spec := "wireWrites", apart := false, narrowed := true }
def WireWritesUptoSaid : Prop := wireWritesUptoRow.holds Try.pinned (OpenSpec.upto wireWritesSpec)

/-- 'cordwainlaw3.WireReads', WHERE WHAT IT READS IS OF BULK AT MOST 1048576: true; the input reads as it did. -/
def wireReadsUptoRow : OpenClaim := { program := "ytlcanameloklbaa", sum := "a1eadbe6ced496d2e5952b8cb0b78037c06f4c26776d25646d6f6eb739908c2d", func := "cordwain/cordwainlaw3.WireReads", spec := "wireReads", unfollowed := true, recurses := true, apart := false, narrowed := true }
def WireReadsUptoSaid : Prop := wireReadsUptoRow.holds Try.pinned (OpenSpec.upto wireReadsSpec)

/-- 'cordwainlaw3.WireLimits', WHERE WHAT IT READS IS OF BULK AT MOST 1048576: true; the input reads as it did. -/
def wireLimitsUptoRow : OpenClaim := { program := "ytlcanameloklbaa", sum := "a1eadbe6ced496d2e5952b8cb0b78037c06f4c26776d25646d6f6eb739908c2d", func := "cordwain/cordwainlaw3.WireLimits", spec := "wireLimits", apart := false, narrowed := true }
def WireLimitsUptoSaid : Prop := wireLimitsUptoRow.holds Try.pinned (OpenSpec.upto wireLimitsSpec)

/-- 'cordwainlaw3.WireBack', WHERE WHAT IT READS IS OF BULK AT MOST 1048576: true; the input reads as it did. -/
def wireBackUptoRow : OpenClaim := { program := "ytlcanameloklbaa", sum := "a1eadbe6ced496d2e5952b8cb0b78037c06f4c26776d25646d6f6eb739908c2d", func := "cordwain/cordwainlaw3.WireBack", spec := "wireBack", apart := false, narrowed := true }
def WireBackUptoSaid : Prop := wireBackUptoRow.holds Try.pinned (OpenSpec.upto wireBackSpec)

/-- 'cordwainlaw21.TopicsPlays', WHERE WHAT IT READS IS OF BULK AT MOST 1048576: true; the input reads as it did. -/
def topicsPlaysUptoRow : OpenClaim := { program := "ytlcanameloklbaa", sum := "a1eadbe6ced496d2e5952b8cb0b78037c06f4c26776d25646d6f6eb739908c2d", func := "cordwain/cordwainlaw21.TopicsPlays", spec := "topicsPlays", inPlace := ["maps.clone"], unfollowed := true, recurses := true, apart := false, narrowed := true }
def TopicsPlaysUptoSaid : Prop := topicsPlaysUptoRow.holds Try.pinned (OpenSpec.upto topicsPlaysSpec)

/-- 'cordwainlaw21.TopicsNothing', WHERE WHAT IT READS IS OF BULK AT MOST 1048576: true; the input reads as it did. -/
def topicsNothingUptoRow : OpenClaim := { program := "ytlcanameloklbaa", sum := "a1eadbe6ced496d2e5952b8cb0b78037c06f4c26776d25646d6f6eb739908c2d", func := "cordwain/cordwainlaw21.TopicsNothing", spec := "topicsNothing", inPlace := ["maps.clone"], unfollowed := true, recurses := true, apart := false, narrowed := true }
def TopicsNothingUptoSaid : Prop := topicsNothingUptoRow.holds Try.pinned (OpenSpec.upto topicsNothingSpec)

/-- 'cordwainlaw21.TopicsFull', WHERE WHAT IT READS IS OF BULK AT MOST 1048576: true; the input reads as it did. -/
def topicsFullUptoRow : OpenClaim := { program := "ytlcanameloklbaa", sum := "a1eadbe6ced496d2e5952b8cb0b78037c06f4c26776d25646d6f6eb739908c2d", func := "cordwain/cordwainlaw21.TopicsFull", spec := "topicsFull", inPlace := ["maps.clone"], unfollowed := true, recurses := true, apart := false, narrowed := true }
def TopicsFullUptoSaid : Prop := topicsFullUptoRow.holds Try.pinned (OpenSpec.upto topicsFullSpec)

/-- 'cordwainlaw21.TopicsCrash', WHERE WHAT IT READS IS OF BULK AT MOST 1048576: true; the input reads as it did. -/
def topicsCrashUptoRow : OpenClaim := { program := "ytlcanameloklbaa", sum := "a1eadbe6ced496d2e5952b8cb0b78037c06f4c26776d25646d6f6eb739908c2d", func := "cordwain/cordwainlaw21.TopicsCrash", spec := "topicsCrash", inPlace := ["maps.clone"], unfollowed := true, recurses := true, apart := false, narrowed := true }
def TopicsCrashUptoSaid : Prop := topicsCrashUptoRow.holds Try.pinned (OpenSpec.upto topicsCrashSpec)

end Rows
end Go.Proofs.Ytlcanameloklbaa
