/-
  No cell of these rows narrows 'for every input' (looked for: loops, veiled, ifaces, maps, wideKeys, modest, calm, conditions, laid).
  DERIVED. THE GIVEN ROWS OF THIS SEAT. 9 by the template 'for every input the law returns true; each argument reads behind the call as it read before'; 0 by the template 'total and deterministic' (their statements: YtbehegpahiefaaaTotals.lean).
  GIVEN WITH THE SEED: the statements are not yours to turn. If you find one false, say at which input.
  Laid BY PROGRAM, IN A SANDBOX (cutbox-rows.mjs): the forced cells as the released guide's own fill.sh prints them over the translation d9736d4fa873bdb1… (all of the seat's roots in one cut). By AI agents, Wed Nov 11 2026. No macro, syntax, notation, axiom, sorry.
-/
import Derived.Test.YtbehegpahiefaaaChecked
import GoSem.Claim
import GoSem.ClaimJoined
import GoSem.ClaimMapViews
import Derived.JoinedTies
import Derived.KernelRfl
namespace Go.Proofs.Ytbehegpahiefaaa
/- THE CELL 'sum', in the pinned program and in every row, IS THE sha256 OF THE DUMP (.gsa) THAT YtbehegpahiefaaaProg.lean LOADS. Nothing in Lean hashes anything: it is a label: what it is worth is what the hold of that sum in a sandbox is worth. -/
noncomputable def Try.pinned : Pinned := { name := "ytbehegpahiefaaa", sum := "d9736d4fa873bdb1aafdfb8e7749e101b27b228c3b22c7a13c0d1da7ea81195c", checked := Try.checked }
namespace Rows
def none {H : Type} : Left H := { results := [], args := [] }

/-- 'cordwainlaw3.WireWrites': WHATEVER THE INPUT: true; the input reads as it did. -/
def wireWritesSpec : ChangeSpec := { name := "wireWrites", fn := fun _ => fun
  | [d] => { results := [.lit (.bool true)], args := [d] }
  | _ => none }
def wireWritesRow : OpenClaim := { program := "ytbehegpahiefaaa", sum := "d9736d4fa873bdb1aafdfb8e7749e101b27b228c3b22c7a13c0d1da7ea81195c", func := "cordwain/cordwainlaw3.WireWrites", spec := "wireWrites", apart := false }
def WireWritesSaid : Prop := wireWritesRow.holds Try.pinned (OpenSpec.ofChange wireWritesSpec)

/-- ITS FALSE NEIGHBOUR: 'it returns false'. Refute it at one input. -/
def wireWritesWrong : ChangeSpec := { name := "wireWrites", fn := fun _ => fun
  | [d] => { results := [.lit (.bool false)], args := [d] }
  | _ => none }
def WireWritesWrongFalsely : Prop := wireWritesRow.holds Try.pinned (OpenSpec.ofChange wireWritesWrong)

/-- 'cordwainlaw3.WireReads': WHATEVER THE INPUT: true; the input reads as it did. -/
def wireReadsSpec : ChangeSpec := { name := "wireReads", fn := fun _ => fun
  | [d1, d2, d3] => { results := [.lit (.bool true)], args := [d1, d2, d3] }
  | _ => none }
def wireReadsRow : OpenClaim := { program := "ytbehegpahiefaaa", sum := "d9736d4fa873bdb1aafdfb8e7749e101b27b228c3b22c7a13c0d1da7ea81195c", func := "cordwain/cordwainlaw3.WireReads", spec := "wireReads", unfollowed := true, recurses := true, apart := false }
def WireReadsSaid : Prop := wireReadsRow.holds Try.pinned (OpenSpec.ofChange wireReadsSpec)

/-- ITS FALSE NEIGHBOUR: 'it returns false'. Refute it at one input. -/
def wireReadsWrong : ChangeSpec := { name := "wireReads", fn := fun _ => fun
  | [d1, d2, d3] => { results := [.lit (.bool false)], args := [d1, d2, d3] }
  | _ => none }
def WireReadsWrongFalsely : Prop := wireReadsRow.holds Try.pinned (OpenSpec.ofChange wireReadsWrong)

/-- 'cordwainlaw3.WireLimits': WHATEVER THE INPUT: true; the input reads as it did. -/
def wireLimitsSpec : ChangeSpec := { name := "wireLimits", fn := fun _ => fun
  | [d1, d2, d3] => { results := [.lit (.bool true)], args := [d1, d2, d3] }
  | _ => none }
def wireLimitsRow : OpenClaim := { program := "ytbehegpahiefaaa", sum := "d9736d4fa873bdb1aafdfb8e7749e101b27b228c3b22c7a13c0d1da7ea81195c", func := "cordwain/cordwainlaw3.WireLimits", spec := "wireLimits", apart := false }
def WireLimitsSaid : Prop := wireLimitsRow.holds Try.pinned (OpenSpec.ofChange wireLimitsSpec)

/-- ITS FALSE NEIGHBOUR: 'it returns false'. Refute it at one input. -/
def wireLimitsWrong : ChangeSpec := { name := "wireLimits", fn := fun _ => fun
  | [d1, d2, d3] => { results := [.lit (.bool false)], args := [d1, d2, d3] }
  | _ => none }
def WireLimitsWrongFalsely : Prop := wireLimitsRow.holds Try.pinned (OpenSpec.ofChange wireLimitsWrong)

/-- 'cordwainlaw3.WireBack': WHATEVER THE INPUT: true; the input reads as it did. -/
def wireBackSpec : ChangeSpec := { name := "wireBack", fn := fun _ => fun
  | [d] => { results := [.lit (.bool true)], args := [d] }
  | _ => none }
def wireBackRow : OpenClaim := { program := "ytbehegpahiefaaa", sum := "d9736d4fa873bdb1aafdfb8e7749e101b27b228c3b22c7a13c0d1da7ea81195c", func := "cordwain/cordwainlaw3.WireBack", spec := "wireBack", apart := false }
def WireBackSaid : Prop := wireBackRow.holds Try.pinned (OpenSpec.ofChange wireBackSpec)

/-- ITS FALSE NEIGHBOUR: 'it returns false'. Refute it at one input. -/
def wireBackWrong : ChangeSpec := { name := "wireBack", fn := fun _ => fun
  | [d] => { results := [.lit (.bool false)], args := [d] }
  | _ => none }
def WireBackWrongFalsely : Prop := wireBackRow.holds Try.pinned (OpenSpec.ofChange wireBackWrong)

/-- 'cordwainlaw20.ProtoRequests': WHATEVER THE INPUT: true; the input reads as it did. -/
def protoRequestsSpec : ChangeSpec := { name := "protoRequests", fn := fun _ => fun
  | [d1, d2] => { results := [.lit (.bool true)], args := [d1, d2] }
  | _ => none }
def protoRequestsRow : OpenClaim := { program := "ytbehegpahiefaaa", sum := "d9736d4fa873bdb1aafdfb8e7749e101b27b228c3b22c7a13c0d1da7ea81195c", func := "cordwain/cordwainlaw20.ProtoRequests", spec := "protoRequests", unfollowed := true, recurses := true, apart := false }
def ProtoRequestsSaid : Prop := protoRequestsRow.holds Try.pinned (OpenSpec.ofChange protoRequestsSpec)

/-- ITS FALSE NEIGHBOUR: 'it returns false'. Refute it at one input. -/
def protoRequestsWrong : ChangeSpec := { name := "protoRequests", fn := fun _ => fun
  | [d1, d2] => { results := [.lit (.bool false)], args := [d1, d2] }
  | _ => none }
def ProtoRequestsWrongFalsely : Prop := protoRequestsRow.holds Try.pinned (OpenSpec.ofChange protoRequestsWrong)

/-- 'cordwainlaw20.ProtoSame': WHATEVER THE INPUT: true; the input reads as it did. -/
def protoSameSpec : ChangeSpec := { name := "protoSame", fn := fun _ => fun
  | [d1, d2, d3, d4] => { results := [.lit (.bool true)], args := [d1, d2, d3, d4] }
  | _ => none }
def protoSameRow : OpenClaim := { program := "ytbehegpahiefaaa", sum := "d9736d4fa873bdb1aafdfb8e7749e101b27b228c3b22c7a13c0d1da7ea81195c", func := "cordwain/cordwainlaw20.ProtoSame", spec := "protoSame", unfollowed := true, recurses := true, apart := false }
def ProtoSameSaid : Prop := protoSameRow.holds Try.pinned (OpenSpec.ofChange protoSameSpec)

/-- ITS FALSE NEIGHBOUR: 'it returns false'. Refute it at one input. -/
def protoSameWrong : ChangeSpec := { name := "protoSame", fn := fun _ => fun
  | [d1, d2, d3, d4] => { results := [.lit (.bool false)], args := [d1, d2, d3, d4] }
  | _ => none }
def ProtoSameWrongFalsely : Prop := protoSameRow.holds Try.pinned (OpenSpec.ofChange protoSameWrong)

/-- 'cordwainlaw20.ProtoKinds': WHATEVER THE INPUT: true; the input reads as it did. -/
def protoKindsSpec : ChangeSpec := { name := "protoKinds", fn := fun _ => fun
  | [d1, d2, d3, d4] => { results := [.lit (.bool true)], args := [d1, d2, d3, d4] }
  | _ => none }
def protoKindsRow : OpenClaim := { program := "ytbehegpahiefaaa", sum := "d9736d4fa873bdb1aafdfb8e7749e101b27b228c3b22c7a13c0d1da7ea81195c", func := "cordwain/cordwainlaw20.ProtoKinds", spec := "protoKinds", unfollowed := true, recurses := true, apart := false }
def ProtoKindsSaid : Prop := protoKindsRow.holds Try.pinned (OpenSpec.ofChange protoKindsSpec)

/-- ITS FALSE NEIGHBOUR: 'it returns false'. Refute it at one input. -/
def protoKindsWrong : ChangeSpec := { name := "protoKinds", fn := fun _ => fun
  | [d1, d2, d3, d4] => { results := [.lit (.bool false)], args := [d1, d2, d3, d4] }
  | _ => none }
def ProtoKindsWrongFalsely : Prop := protoKindsRow.holds Try.pinned (OpenSpec.ofChange protoKindsWrong)

/-- 'cordwainlaw20.ProtoFrames': WHATEVER THE INPUT: true; the input reads as it did. -/
def protoFramesSpec : ChangeSpec := { name := "protoFrames", fn := fun _ => fun
  | [d1, d2, d3] => { results := [.lit (.bool true)], args := [d1, d2, d3] }
  | _ => none }
def protoFramesRow : OpenClaim := { program := "ytbehegpahiefaaa", sum := "d9736d4fa873bdb1aafdfb8e7749e101b27b228c3b22c7a13c0d1da7ea81195c", func := "cordwain/cordwainlaw20.ProtoFrames", spec := "protoFrames", unfollowed := true, recurses := true, apart := false }
def ProtoFramesSaid : Prop := protoFramesRow.holds Try.pinned (OpenSpec.ofChange protoFramesSpec)

/-- ITS FALSE NEIGHBOUR: 'it returns false'. Refute it at one input. -/
def protoFramesWrong : ChangeSpec := { name := "protoFrames", fn := fun _ => fun
  | [d1, d2, d3] => { results := [.lit (.bool false)], args := [d1, d2, d3] }
  | _ => none }
def ProtoFramesWrongFalsely : Prop := protoFramesRow.holds Try.pinned (OpenSpec.ofChange protoFramesWrong)

/-- 'cordwainlaw20.ProtoBack': WHATEVER THE INPUT: true; the input reads as it did. -/
def protoBackSpec : ChangeSpec := { name := "protoBack", fn := fun _ => fun
  | [d1, d2, d3, d4] => { results := [.lit (.bool true)], args := [d1, d2, d3, d4] }
  | _ => none }
def protoBackRow : OpenClaim := { program := "ytbehegpahiefaaa", sum := "d9736d4fa873bdb1aafdfb8e7749e101b27b228c3b22c7a13c0d1da7ea81195c", func := "cordwain/cordwainlaw20.ProtoBack", spec := "protoBack", unfollowed := true, recurses := true, apart := false }
def ProtoBackSaid : Prop := protoBackRow.holds Try.pinned (OpenSpec.ofChange protoBackSpec)

/-- ITS FALSE NEIGHBOUR: 'it returns false'. Refute it at one input. -/
def protoBackWrong : ChangeSpec := { name := "protoBack", fn := fun _ => fun
  | [d1, d2, d3, d4] => { results := [.lit (.bool false)], args := [d1, d2, d3, d4] }
  | _ => none }
def ProtoBackWrongFalsely : Prop := protoBackRow.holds Try.pinned (OpenSpec.ofChange protoBackWrong)

/- THE SECOND FORM. 'bulk': how many values and letters a reading holds, each counted each time it is reached (what is shared counts as often as it is met; a slice's spare places count too). A statement '..UptoSaid' is the law's where the arguments, and the package variables that the reading takes, are together of bulk at most 1048576: NARROWER than '..Said'. Prove '..Said' where nothing that the law and all that it calls make is longer than what came in: it says more and counts as full. Else prove '..UptoSaid'. A law counts once. -/
mutual
def uptoBulk {H : Type} : DataW H → Nat
  | .lit (.string bytes) => bytes.length + 1
  | .lit _ => 1
  | .nil => 1
  | .ptr d => uptoBulk d + 1
  | .slice elems spare => uptoBulkAll elems + uptoBulkAll spare + 1
  | .agg parts => uptoBulkAll parts + 1
  | .iface _ d => uptoBulk d + 1
  | .map entries => uptoBulkEntries entries + 1
  | .held _ => 1
def uptoBulkAll {H : Type} : List (DataW H) → Nat
  | [] => 0
  | d :: r => uptoBulk d + uptoBulkAll r
def uptoBulkEntries {H : Type} : List (Lit × DataW H) → Nat
  | [] => 0
  | x :: r => uptoBulkEntry x + uptoBulkEntries r
def uptoBulkEntry {H : Type} : Lit × DataW H → Nat
  | (.string bytes, d) => bytes.length + uptoBulk d + 1
  | (_, d) => uptoBulk d + 1
 end
def uptoSmall : (H : Type) → List (DataW H) → Bool := fun _ ds => decide (uptoBulkAll ds ≤ 1048576)
def OpenSpec.upto (s : _root_.Go.ChangeSpec) : _root_.Go.OpenSpec := { _root_.Go.OpenSpec.ofChange s with cond := some uptoSmall }

/-- 'cordwainlaw3.WireWrites', WHERE WHAT IT READS IS OF BULK AT MOST 1048576: true; the input reads as it did. -/
def wireWritesUptoRow : OpenClaim := { program := "ytbehegpahiefaaa", sum := "d9736d4fa873bdb1aafdfb8e7749e101b27b228c3b22c7a13c0d1da7ea81195c", func := "cordwain/cordwainlaw3.WireWrites", spec := "wireWrites", apart := false, narrowed := true }
def WireWritesUptoSaid : Prop := wireWritesUptoRow.holds Try.pinned (OpenSpec.upto wireWritesSpec)

/-- 'cordwainlaw3.WireReads', WHERE WHAT IT READS IS OF BULK AT MOST 1048576: true; the input reads as it did. -/
def wireReadsUptoRow : OpenClaim := { program := "ytbehegpahiefaaa", sum := "d9736d4fa873bdb1aafdfb8e7749e101b27b228c3b22c7a13c0d1da7ea81195c", func := "cordwain/cordwainlaw3.WireReads", spec := "wireReads", unfollowed := true, recurses := true, apart := false, narrowed := true }
def WireReadsUptoSaid : Prop := wireReadsUptoRow.holds Try.pinned (OpenSpec.upto wireReadsSpec)

/-- 'cordwainlaw3.WireLimits', WHERE WHAT IT READS IS OF BULK AT MOST 1048576: true; the input reads as it did. -/
def wireLimitsUptoRow : OpenClaim := { program := "ytbehegpahiefaaa", sum := "d9736d4fa873bdb1aafdfb8e7749e101b27b228c3b22c7a13c0d1da7ea81195c", func := "cordwain/cordwainlaw3.WireLimits", spec := "wireLimits", apart := false, narrowed := true }
def WireLimitsUptoSaid : Prop := wireLimitsUptoRow.holds Try.pinned (OpenSpec.upto wireLimitsSpec)

/-- 'cordwainlaw3.WireBack', WHERE WHAT IT READS IS OF BULK AT MOST 1048576: true; the input reads as it did. -/
def wireBackUptoRow : OpenClaim := { program := "ytbehegpahiefaaa", sum := "d9736d4fa873bdb1aafdfb8e7749e101b27b228c3b22c7a13c0d1da7ea81195c", func := "cordwain/cordwainlaw3.WireBack", spec := "wireBack", apart := false, narrowed := true }
def WireBackUptoSaid : Prop := wireBackUptoRow.holds Try.pinned (OpenSpec.upto wireBackSpec)

/-- 'cordwainlaw20.ProtoRequests', WHERE WHAT IT READS IS OF BULK AT MOST 1048576: true; the input reads as it did. -/
def protoRequestsUptoRow : OpenClaim := { program := "ytbehegpahiefaaa", sum := "d9736d4fa873bdb1aafdfb8e7749e101b27b228c3b22c7a13c0d1da7ea81195c", func := "cordwain/cordwainlaw20.ProtoRequests", spec := "protoRequests", unfollowed := true, recurses := true, apart := false, narrowed := true }
def ProtoRequestsUptoSaid : Prop := protoRequestsUptoRow.holds Try.pinned (OpenSpec.upto protoRequestsSpec)

/-- 'cordwainlaw20.ProtoSame', WHERE WHAT IT READS IS OF BULK AT MOST 1048576: true; the input reads as it did. -/
def protoSameUptoRow : OpenClaim := { program := "ytbehegpahiefaaa", sum := "d9736d4fa873bdb1aafdfb8e7749e101b27b228c3b22c7a13c0d1da7ea81195c", func := "cordwain/cordwainlaw20.ProtoSame", spec := "protoSame", unfollowed := true, recurses := true, apart := false, narrowed := true }
def ProtoSameUptoSaid : Prop := protoSameUptoRow.holds Try.pinned (OpenSpec.upto protoSameSpec)

/-- 'cordwainlaw20.ProtoKinds', WHERE WHAT IT READS IS OF BULK AT MOST 1048576: true; the input reads as it did. -/
def protoKindsUptoRow : OpenClaim := { program := "ytbehegpahiefaaa", sum := "d9736d4fa873bdb1aafdfb8e7749e101b27b228c3b22c7a13c0d1da7ea81195c", func := "cordwain/cordwainlaw20.ProtoKinds", spec := "protoKinds", unfollowed := true, recurses := true, apart := false, narrowed := true }
def ProtoKindsUptoSaid : Prop := protoKindsUptoRow.holds Try.pinned (OpenSpec.upto protoKindsSpec)

/-- 'cordwainlaw20.ProtoFrames', WHERE WHAT IT READS IS OF BULK AT MOST 1048576: true; the input reads as it did. -/
def protoFramesUptoRow : OpenClaim := { program := "ytbehegpahiefaaa", sum := "d9736d4fa873bdb1aafdfb8e7749e101b27b228c3b22c7a13c0d1da7ea81195c", func := "cordwain/cordwainlaw20.ProtoFrames", spec := "protoFrames", unfollowed := true, recurses := true, apart := false, narrowed := true }
def ProtoFramesUptoSaid : Prop := protoFramesUptoRow.holds Try.pinned (OpenSpec.upto protoFramesSpec)

/-- 'cordwainlaw20.ProtoBack', WHERE WHAT IT READS IS OF BULK AT MOST 1048576: true; the input reads as it did. -/
def protoBackUptoRow : OpenClaim := { program := "ytbehegpahiefaaa", sum := "d9736d4fa873bdb1aafdfb8e7749e101b27b228c3b22c7a13c0d1da7ea81195c", func := "cordwain/cordwainlaw20.ProtoBack", spec := "protoBack", unfollowed := true, recurses := true, apart := false, narrowed := true }
def ProtoBackUptoSaid : Prop := protoBackUptoRow.holds Try.pinned (OpenSpec.upto protoBackSpec)

end Rows
end Go.Proofs.Ytbehegpahiefaaa
