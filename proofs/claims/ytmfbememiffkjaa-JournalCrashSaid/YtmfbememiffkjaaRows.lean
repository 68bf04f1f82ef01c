/-
  No cell of these rows narrows 'for every input' (looked for: loops, veiled, ifaces, maps, wideKeys, modest, calm, conditions, laid).
  DERIVED. THE GIVEN ROWS OF THIS SEAT. 10 by the template 'for every input the law returns true; each argument reads behind the call as it read before'; 0 by the template 'total and deterministic' (their statements: YtmfbememiffkjaaTotals.lean).
  GIVEN WITH THE SEED: the statements are not yours to turn. If you find one false, say at which input.
  Laid BY PROGRAM, IN A SANDBOX (cutbox-rows.mjs): the forced cells as the released guide's own fill.sh prints them over the translation 2bd4a7d51da3d174… (all of the seat's roots in one cut). By AI agents, Wed Nov 11 2026. No macro, syntax, notation, axiom, sorry.
-/
import Derived.Test.YtmfbememiffkjaaChecked
import GoSem.Claim
import GoSem.ClaimJoined
import GoSem.ClaimMapViews
import Derived.JoinedTies
import Derived.KernelRfl
namespace Go.Proofs.Ytmfbememiffkjaa
/- THE CELL 'sum', in the pinned program and in every row, IS THE sha256 OF THE DUMP (.gsa) THAT YtmfbememiffkjaaProg.lean LOADS. Nothing in Lean hashes anything: it is a label: what it is worth is what the hold of that sum in a sandbox is worth. -/
noncomputable def Try.pinned : Pinned := { name := "ytmfbememiffkjaa", sum := "2bd4a7d51da3d1747ebc0db440a819b53fe72915c7a0615e4a2feecfa68919fb", checked := Try.checked }
namespace Rows
def none {H : Type} : Left H := { results := [], args := [] }

/-- 'doormanlaw03.DevicePlays': WHATEVER THE INPUT: true; the input reads as it did. -/
def devicePlaysSpec : ChangeSpec := { name := "devicePlays", fn := fun _ => fun
  | [d1, d2] => { results := [.lit (.bool true)], args := [d1, d2] }
  | _ => none }
def devicePlaysRow : OpenClaim := { program := "ytmfbememiffkjaa", sum := "2bd4a7d51da3d1747ebc0db440a819b53fe72915c7a0615e4a2feecfa68919fb", func := "doorman/doormanlaw03.DevicePlays", spec := "devicePlays", unfollowed := true, recurses := true, apart := false }
def DevicePlaysSaid : Prop := devicePlaysRow.holds Try.pinned (OpenSpec.ofChange devicePlaysSpec)

/-- ITS FALSE NEIGHBOUR: 'it returns false'. Refute it at one input. -/
def devicePlaysWrong : ChangeSpec := { name := "devicePlays", fn := fun _ => fun
  | [d1, d2] => { results := [.lit (.bool false)], args := [d1, d2] }
  | _ => none }
def DevicePlaysWrongFalsely : Prop := devicePlaysRow.holds Try.pinned (OpenSpec.ofChange devicePlaysWrong)

/-- 'doormanlaw03.DeviceKeeps': WHATEVER THE INPUT: true; the input reads as it did. -/
def deviceKeepsSpec : ChangeSpec := { name := "deviceKeeps", fn := fun _ => fun
  | [d1, d2, d3, d4] => { results := [.lit (.bool true)], args := [d1, d2, d3, d4] }
  | _ => none }
def deviceKeepsRow : OpenClaim := { program := "ytmfbememiffkjaa", sum := "2bd4a7d51da3d1747ebc0db440a819b53fe72915c7a0615e4a2feecfa68919fb", func := "doorman/doormanlaw03.DeviceKeeps", spec := "deviceKeeps", unfollowed := true, recurses := true, apart := false }
def DeviceKeepsSaid : Prop := deviceKeepsRow.holds Try.pinned (OpenSpec.ofChange deviceKeepsSpec)

/-- ITS FALSE NEIGHBOUR: 'it returns false'. Refute it at one input. -/
def deviceKeepsWrong : ChangeSpec := { name := "deviceKeeps", fn := fun _ => fun
  | [d1, d2, d3, d4] => { results := [.lit (.bool false)], args := [d1, d2, d3, d4] }
  | _ => none }
def DeviceKeepsWrongFalsely : Prop := deviceKeepsRow.holds Try.pinned (OpenSpec.ofChange deviceKeepsWrong)

/-- 'doormanlaw03.DeviceDies': WHATEVER THE INPUT: true; the input reads as it did. -/
def deviceDiesSpec : ChangeSpec := { name := "deviceDies", fn := fun _ => fun
  | [d1, d2] => { results := [.lit (.bool true)], args := [d1, d2] }
  | _ => none }
def deviceDiesRow : OpenClaim := { program := "ytmfbememiffkjaa", sum := "2bd4a7d51da3d1747ebc0db440a819b53fe72915c7a0615e4a2feecfa68919fb", func := "doorman/doormanlaw03.DeviceDies", spec := "deviceDies", unfollowed := true, recurses := true, apart := false }
def DeviceDiesSaid : Prop := deviceDiesRow.holds Try.pinned (OpenSpec.ofChange deviceDiesSpec)

/-- ITS FALSE NEIGHBOUR: 'it returns false'. Refute it at one input. -/
def deviceDiesWrong : ChangeSpec := { name := "deviceDies", fn := fun _ => fun
  | [d1, d2] => { results := [.lit (.bool false)], args := [d1, d2] }
  | _ => none }
def DeviceDiesWrongFalsely : Prop := deviceDiesRow.holds Try.pinned (OpenSpec.ofChange deviceDiesWrong)

/-- 'doormanlaw03.DeviceOrder': WHATEVER THE INPUT: true; the input reads as it did. -/
def deviceOrderSpec : ChangeSpec := { name := "deviceOrder", fn := fun _ => fun
  | [d1, d2] => { results := [.lit (.bool true)], args := [d1, d2] }
  | _ => none }
def deviceOrderRow : OpenClaim := { program := "ytmfbememiffkjaa", sum := "2bd4a7d51da3d1747ebc0db440a819b53fe72915c7a0615e4a2feecfa68919fb", func := "doorman/doormanlaw03.DeviceOrder", spec := "deviceOrder", unfollowed := true, recurses := true, apart := false }
def DeviceOrderSaid : Prop := deviceOrderRow.holds Try.pinned (OpenSpec.ofChange deviceOrderSpec)

/-- ITS FALSE NEIGHBOUR: 'it returns false'. Refute it at one input. -/
def deviceOrderWrong : ChangeSpec := { name := "deviceOrder", fn := fun _ => fun
  | [d1, d2] => { results := [.lit (.bool false)], args := [d1, d2] }
  | _ => none }
def DeviceOrderWrongFalsely : Prop := deviceOrderRow.holds Try.pinned (OpenSpec.ofChange deviceOrderWrong)

/-- 'doormanlaw03.DeviceArms': WHATEVER THE INPUT: true; the input reads as it did. -/
def deviceArmsSpec : ChangeSpec := { name := "deviceArms", fn := fun _ => fun
  | [d1, d2] => { results := [.lit (.bool true)], args := [d1, d2] }
  | _ => none }
def deviceArmsRow : OpenClaim := { program := "ytmfbememiffkjaa", sum := "2bd4a7d51da3d1747ebc0db440a819b53fe72915c7a0615e4a2feecfa68919fb", func := "doorman/doormanlaw03.DeviceArms", spec := "deviceArms", unfollowed := true, recurses := true, apart := false }
def DeviceArmsSaid : Prop := deviceArmsRow.holds Try.pinned (OpenSpec.ofChange deviceArmsSpec)

/-- ITS FALSE NEIGHBOUR: 'it returns false'. Refute it at one input. -/
def deviceArmsWrong : ChangeSpec := { name := "deviceArms", fn := fun _ => fun
  | [d1, d2] => { results := [.lit (.bool false)], args := [d1, d2] }
  | _ => none }
def DeviceArmsWrongFalsely : Prop := deviceArmsRow.holds Try.pinned (OpenSpec.ofChange deviceArmsWrong)

/-- 'doormanlaw04.JournalReads': WHATEVER THE INPUT: true; the input reads as it did. -/
def journalReadsSpec : ChangeSpec := { name := "journalReads", fn := fun _ => fun
  | [d1, d2, d3, d4] => { results := [.lit (.bool true)], args := [d1, d2, d3, d4] }
  | _ => none }
def journalReadsRow : OpenClaim := { program := "ytmfbememiffkjaa", sum := "2bd4a7d51da3d1747ebc0db440a819b53fe72915c7a0615e4a2feecfa68919fb", func := "doorman/doormanlaw04.JournalReads", spec := "journalReads", unfollowed := true, recurses := true, apart := false }
def JournalReadsSaid : Prop := journalReadsRow.holds Try.pinned (OpenSpec.ofChange journalReadsSpec)

/-- ITS FALSE NEIGHBOUR: 'it returns false'. Refute it at one input. -/
def journalReadsWrong : ChangeSpec := { name := "journalReads", fn := fun _ => fun
  | [d1, d2, d3, d4] => { results := [.lit (.bool false)], args := [d1, d2, d3, d4] }
  | _ => none }
def JournalReadsWrongFalsely : Prop := journalReadsRow.holds Try.pinned (OpenSpec.ofChange journalReadsWrong)

/-- 'doormanlaw04.JournalEpochs': WHATEVER THE INPUT: true; the input reads as it did. -/
def journalEpochsSpec : ChangeSpec := { name := "journalEpochs", fn := fun _ => fun
  | [d1, d2, d3, d4] => { results := [.lit (.bool true)], args := [d1, d2, d3, d4] }
  | _ => none }
def journalEpochsRow : OpenClaim := { program := "ytmfbememiffkjaa", sum := "2bd4a7d51da3d1747ebc0db440a819b53fe72915c7a0615e4a2feecfa68919fb", func := "doorman/doormanlaw04.JournalEpochs", spec := "journalEpochs", unfollowed := true, recurses := true, apart := false }
def JournalEpochsSaid : Prop := journalEpochsRow.holds Try.pinned (OpenSpec.ofChange journalEpochsSpec)

/-- ITS FALSE NEIGHBOUR: 'it returns false'. Refute it at one input. -/
def journalEpochsWrong : ChangeSpec := { name := "journalEpochs", fn := fun _ => fun
  | [d1, d2, d3, d4] => { results := [.lit (.bool false)], args := [d1, d2, d3, d4] }
  | _ => none }
def JournalEpochsWrongFalsely : Prop := journalEpochsRow.holds Try.pinned (OpenSpec.ofChange journalEpochsWrong)

/-- 'doormanlaw04.JournalSizes': WHATEVER THE INPUT: true; the input reads as it did. -/
def journalSizesSpec : ChangeSpec := { name := "journalSizes", fn := fun _ => fun
  | [d1, d2] => { results := [.lit (.bool true)], args := [d1, d2] }
  | _ => none }
def journalSizesRow : OpenClaim := { program := "ytmfbememiffkjaa", sum := "2bd4a7d51da3d1747ebc0db440a819b53fe72915c7a0615e4a2feecfa68919fb", func := "doorman/doormanlaw04.JournalSizes", spec := "journalSizes", unfollowed := true, recurses := true, apart := false }
def JournalSizesSaid : Prop := journalSizesRow.holds Try.pinned (OpenSpec.ofChange journalSizesSpec)

/-- ITS FALSE NEIGHBOUR: 'it returns false'. Refute it at one input. -/
def journalSizesWrong : ChangeSpec := { name := "journalSizes", fn := fun _ => fun
  | [d1, d2] => { results := [.lit (.bool false)], args := [d1, d2] }
  | _ => none }
def JournalSizesWrongFalsely : Prop := journalSizesRow.holds Try.pinned (OpenSpec.ofChange journalSizesWrong)

/-- 'doormanlaw04.JournalWrites': WHATEVER THE INPUT: true; the input reads as it did. -/
def journalWritesSpec : ChangeSpec := { name := "journalWrites", fn := fun _ => fun
  | [d1, d2, d3, d4] => { results := [.lit (.bool true)], args := [d1, d2, d3, d4] }
  | _ => none }
def journalWritesRow : OpenClaim := { program := "ytmfbememiffkjaa", sum := "2bd4a7d51da3d1747ebc0db440a819b53fe72915c7a0615e4a2feecfa68919fb", func := "doorman/doormanlaw04.JournalWrites", spec := "journalWrites", unfollowed := true, recurses := true, apart := false }
def JournalWritesSaid : Prop := journalWritesRow.holds Try.pinned (OpenSpec.ofChange journalWritesSpec)

/-- ITS FALSE NEIGHBOUR: 'it returns false'. Refute it at one input. -/
def journalWritesWrong : ChangeSpec := { name := "journalWrites", fn := fun _ => fun
  | [d1, d2, d3, d4] => { results := [.lit (.bool false)], args := [d1, d2, d3, d4] }
  | _ => none }
def JournalWritesWrongFalsely : Prop := journalWritesRow.holds Try.pinned (OpenSpec.ofChange journalWritesWrong)

/-- 'doormanlaw04.JournalCrash': WHATEVER THE INPUT: true; the input reads as it did. -/
def journalCrashSpec : ChangeSpec := { name := "journalCrash", fn := fun _ => fun
  | [d1, d2, d3, d4] => { results := [.lit (.bool true)], args := [d1, d2, d3, d4] }
  | _ => none }
def journalCrashRow : OpenClaim := { program := "ytmfbememiffkjaa", sum := "2bd4a7d51da3d1747ebc0db440a819b53fe72915c7a0615e4a2feecfa68919fb", func := "doorman/doormanlaw04.JournalCrash", spec := "journalCrash", unfollowed := true, recurses := true, apart := false }
def JournalCrashSaid : Prop := journalCrashRow.holds Try.pinned (OpenSpec.ofChange journalCrashSpec)

/-- ITS FALSE NEIGHBOUR: 'it returns false'. Refute it at one input. -/
def journalCrashWrong : ChangeSpec := { name := "journalCrash", fn := fun _ => fun
  | [d1, d2, d3, d4] => { results := [.lit (.bool false)], args := [d1, d2, d3, d4] }
  | _ => none }
def JournalCrashWrongFalsely : Prop := journalCrashRow.holds Try.pinned (OpenSpec.ofChange journalCrashWrong)

/- THE SECOND FORM. 'bulk': how many values and letters a reading holds, each counted each time it is reached (what is shared counts as often as it is met; a slice's spare places count too). A statement '..UptoSaid' is the law's where the arguments, and the package variables that the reading takes, are together of bulk at most 1048576: NARROWER than '..Said'. Prove '..Said' where nothing that the law and all that it calls make is longer than what came in: it says more and counts as full. Else prove '..UptoSaid'. A law counts once. -/
mutual
def uptoBulk {H : Type} : DataW H → Nat
  | .lit (.string bytes) => bytes.length + 1
  | .lit _ => 1
  | .nil => 1
  | .ptr d => uptoBulk d + 1
  | .slice elems spare => uptoBulkAll elems + uptoBulkAll spare + 1
  | .agg parts => uptoBulkAll parts + 1
  | .iface _ d => uptoBulk d + 1
  | .map entries => uptoBulkEntries entries + 1
  | .held _ => 1
def uptoBulkAll {H : Type} : List (DataW H) → Nat
  | [] => 0
  | d :: r => uptoBulk d + uptoBulkAll r
def uptoBulkEntries {H : Type} : List (Lit × DataW H) → Nat
  | [] => 0
  | x :: r => uptoBulkEntry x + uptoBulkEntries r
def uptoBulkEntry {H : Type} : Lit × DataW H → Nat
  | (.string bytes, d) => bytes.length + uptoBulk d + 1
  | (_, d) => uptoBulk d + 1
 end
def uptoSmall : (H : Type) → List (DataW H) → Bool := fun _ ds => decide (uptoBulkAll ds ≤ 1048576)
def OpenSpec.upto (s : _root_.Go.ChangeSpec) : _root_.Go.OpenSpec := { _root_.Go.OpenSpec.ofChange s with cond := some uptoSmall }

/-- 'doormanlaw03.DevicePlays', WHERE WHAT IT READS IS OF BULK AT MOST 1048576: true; the input reads as it did. -/
def devicePlaysUptoRow : OpenClaim := { program := "ytmfbememiffkjaa", sum := "2bd4a7d51da3d1747ebc0db440a819b53fe72915c7a0615e4a2feecfa68919fb", func := "doorman/doormanlaw03.DevicePlays", spec := "devicePlays", unfollowed := true, recurses := true, apart := false, narrowed := true }
def DevicePlaysUptoSaid : Prop := devicePlaysUptoRow.holds Try.pinned (OpenSpec.upto devicePlaysSpec)

/-- 'doormanlaw03.DeviceKeeps', WHERE WHAT IT READS IS OF BULK AT MOST 1048576: true; the input reads as it did. -/
def deviceKeepsUptoRow : OpenClaim := { program := "ytmfbememiffkjaa", sum := "2bd4a7d51da3d1747ebc0db440a819b53fe72915c7a0615e4a2feecfa68919fb", func := "doorman/doormanlaw03.DeviceKeeps", spec := "deviceKeeps", unfollowed := true, recurses := true, apart := false, narrowed := true }
def DeviceKeepsUptoSaid : Prop := deviceKeepsUptoRow.holds Try.pinned (OpenSpec.upto deviceKeepsSpec)

/-- 'doormanlaw03.DeviceDies', WHERE WHAT IT READS IS OF BULK AT MOST 1048576: true; the input reads as it did. -/
def deviceDiesUptoRow : OpenClaim := { program := "ytmfbememiffkjaa", sum := "2bd4a7d51da3d1747ebc0db440a819b53fe72915c7a0615e4a2feecfa68919fb", func := "doorman/doormanlaw03.DeviceDies", spec := "deviceDies", unfollowed := true, recurses := true, apart := false, narrowed := true }
def DeviceDiesUptoSaid : Prop := deviceDiesUptoRow.holds Try.pinned (OpenSpec.upto deviceDiesSpec)

/-- 'doormanlaw03.DeviceOrder', WHERE WHAT IT READS IS OF BULK AT MOST 1048576: true; the input reads as it did. -/
def deviceOrderUptoRow : OpenClaim := { program := "ytmfbememiffkjaa", sum := "2bd4a7d51da3d1747ebc0db440a819b53fe72915c7a0615e4a2feecfa68919fb", func := "doorman/doormanlaw03.DeviceOrder", spec := "deviceOrder", unfollowed := true, recurses := true, apart := false, narrowed := true }
def DeviceOrderUptoSaid : Prop := deviceOrderUptoRow.holds Try.pinned (OpenSpec.upto deviceOrderSpec)

/-- 'doormanlaw03.DeviceArms', WHERE WHAT IT READS IS OF BULK AT MOST 1048576: true; the input reads as it did. -/
def deviceArmsUptoRow : OpenClaim := { program := "ytmfbememiffkjaa", sum := "2bd4a7d51da3d1747ebc0db440a819b53fe72915c7a0615e4a2feecfa68919fb", func := "doorman/doormanlaw03.DeviceArms", spec := "deviceArms", unfollowed := true, recurses := true, apart := false, narrowed := true }
def DeviceArmsUptoSaid : Prop := deviceArmsUptoRow.holds Try.pinned (OpenSpec.upto deviceArmsSpec)

/-- 'doormanlaw04.JournalReads', WHERE WHAT IT READS IS OF BULK AT MOST 1048576: true; the input reads as it did. -/
def journalReadsUptoRow : OpenClaim := { program := "ytmfbememiffkjaa", sum := "2bd4a7d51da3d1747ebc0db440a819b53fe72915c7a0615e4a2feecfa68919fb", func := "doorman/doormanlaw04.JournalReads", spec := "journalReads", unfollowed := true, recurses := true, apart := false, narrowed := true }
def JournalReadsUptoSaid : Prop := journalReadsUptoRow.holds Try.pinned (OpenSpec.upto journalReadsSpec)

/-- 'doormanlaw04.JournalEpochs', WHERE WHAT IT READS IS OF BULK AT MOST 1048576: true; the input reads as it did. -/
def journalEpochsUptoRow : OpenClaim := { program := "ytmfbememiffkjaa", sum := "2bd4a7d51da3d1747ebc0db440a819b53fe72915c7a0615e4a2feecfa68919fb", func := "doorman/doormanlaw04.JournalEpochs", spec := "journalEpochs", unfollowed := true, recurses := true, apart := false, narrowed := true }
def JournalEpochsUptoSaid : Prop := journalEpochsUptoRow.holds Try.pinned (OpenSpec.upto journalEpochsSpec)

/-- 'doormanlaw04.JournalSizes', WHERE WHAT IT READS IS OF BULK AT MOST 1048576: true; the input reads as it did. -/
def journalSizesUptoRow : OpenClaim := { program := "ytmfbememiffkjaa", sum := "2bd4a7d51da3d1747ebc0db440a819b53fe72915c7a0615e4a2feecfa68919fb", func := "doorman/doormanlaw04.JournalSizes", spec := "journalSizes", unfollowed := true, recurses := true, apart := false, narrowed := true }
def JournalSizesUptoSaid : Prop := journalSizesUptoRow.holds Try.pinned (OpenSpec.upto journalSizesSpec)

/-- 'doormanlaw04.JournalWrites', WHERE WHAT IT READS IS OF BULK AT MOST 1048576: true; the input reads as it did. -/
def journalWritesUptoRow : OpenClaim := { program := "ytmfbememiffkjaa", sum := "2bd4a7d51da3d1747ebc0db440a819b53fe72915c7a0615e4a2feecfa68919fb", func := "doorman/doormanlaw04.JournalWrites", spec := "journalWrites", unfollowed := true, recurses := true, apart := false, narrowed := true }
def JournalWritesUptoSaid : Prop := journalWritesUptoRow.holds Try.pinned (OpenSpec.upto journalWritesSpec)

/-- 'doormanlaw04.JournalCrash', WHERE WHAT IT READS IS OF BULK AT MOST 1048576: true; the input reads as it did. -/
def journalCrashUptoRow : OpenClaim := { program := "ytmfbememiffkjaa", sum := "2bd4a7d51da3d1747ebc0db440a819b53fe72915c7a0615e4a2feecfa68919fb", func := "doorman/doormanlaw04.JournalCrash", spec := "journalCrash", unfollowed := true, recurses := true, apart := false, narrowed := true }
def JournalCrashUptoSaid : Prop := journalCrashUptoRow.holds Try.pinned (OpenSpec.upto journalCrashSpec)

end Rows
end Go.Proofs.Ytmfbememiffkjaa
