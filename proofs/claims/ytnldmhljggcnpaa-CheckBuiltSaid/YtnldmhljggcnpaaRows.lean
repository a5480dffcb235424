/-
  No cell of these rows narrows 'for every input' (looked for: loops, veiled, ifaces, maps, wideKeys, modest, calm, conditions, laid).
  DERIVED. THE GIVEN ROWS OF THIS SEAT. 14 by the template 'for every input the law returns true; each argument reads behind the call as it read before'; 0 by the template 'total and deterministic' (their statements: YtnldmhljggcnpaaTotals.lean).
  GIVEN WITH THE SEED: the statements are not yours to turn. If you find one false, say at which input.
  Laid BY PROGRAM, IN A SANDBOX (cutbox-rows.mjs): the forced cells as the released guide's own fill.sh prints them over the translation 56c42e525901c26e… (all of the seat's roots in one cut). By AI agents, Wed Nov 11 2026. No macro, syntax, notation, axiom, sorry.
-/
import Derived.Test.YtnldmhljggcnpaaChecked
import GoSem.Claim
import GoSem.ClaimJoined
import GoSem.ClaimMapViews
import Derived.JoinedTies
import Derived.KernelRfl
namespace Go.Proofs.Ytnldmhljggcnpaa
/- THE CELL 'sum', in the pinned program and in every row, IS THE sha256 OF THE DUMP (.gsa) THAT YtnldmhljggcnpaaProg.lean LOADS. Nothing in Lean hashes anything: it is a label: what it is worth is what the hold of that sum in a sandbox is worth. -/
noncomputable def Try.pinned : Pinned := { name := "ytnldmhljggcnpaa", sum := "56c42e525901c26ea25162385930be7e5ec3a66f075b3878c6e6771f034e0a47", checked := Try.checked }
namespace Rows
def none {H : Type} : Left H := { results := [], args := [] }

/-- 'cantlelaw15.ImageBack': WHATEVER THE INPUT: true; the input reads as it did. -/
def imageBackSpec : ChangeSpec := { name := "imageBack", fn := fun _ => fun
  | [d1, d2, d3, d4, d5, d6, d7] => { results := [.lit (.bool true)], args := [d1, d2, d3, d4, d5, d6, d7] }
  | _ => none }
def imageBackRow : OpenClaim := { program := "ytnldmhljggcnpaa", sum := "56c42e525901c26ea25162385930be7e5ec3a66f075b3878c6e6771f034e0a47", func := "cantle/cantlelaw15.ImageBack", spec := "imageBack", inPlace := ["internal/bytealg.MakeNoZero"], plainKeys := false, apart := false }
def ImageBackSaid : Prop := imageBackRow.holds Try.pinned (OpenSpec.ofChange imageBackSpec)

/-- ITS FALSE NEIGHBOUR: 'it returns false'. Refute it at one input. -/
def imageBackWrong : ChangeSpec := { name := "imageBack", fn := fun _ => fun
  | [d1, d2, d3, d4, d5, d6, d7] => { results := [.lit (.bool false)], args := [d1, d2, d3, d4, d5, d6, d7] }
  | _ => none }
def ImageBackWrongFalsely : Prop := imageBackRow.holds Try.pinned (OpenSpec.ofChange imageBackWrong)

/-- 'cantlelaw11.CheckTells': WHATEVER THE INPUT: true; the input reads as it did. -/
def checkTellsSpec : ChangeSpec := { name := "checkTells", fn := fun _ => fun
  | [d1, d2, d3] => { results := [.lit (.bool true)], args := [d1, d2, d3] }
  | _ => none }
def checkTellsRow : OpenClaim := { program := "ytnldmhljggcnpaa", sum := "56c42e525901c26ea25162385930be7e5ec3a66f075b3878c6e6771f034e0a47", func := "cantle/cantlelaw11.CheckTells", spec := "checkTells", plainKeys := false, apart := false }
def CheckTellsSaid : Prop := checkTellsRow.holds Try.pinned (OpenSpec.ofChange checkTellsSpec)

/-- ITS FALSE NEIGHBOUR: 'it returns false'. Refute it at one input. -/
def checkTellsWrong : ChangeSpec := { name := "checkTells", fn := fun _ => fun
  | [d1, d2, d3] => { results := [.lit (.bool false)], args := [d1, d2, d3] }
  | _ => none }
def CheckTellsWrongFalsely : Prop := checkTellsRow.holds Try.pinned (OpenSpec.ofChange checkTellsWrong)

/-- 'cantlelaw09.ListFirst': WHATEVER THE INPUT: true; the input reads as it did. -/
def listFirstSpec : ChangeSpec := { name := "listFirst", fn := fun _ => fun
  | [d1, d2, d3] => { results := [.lit (.bool true)], args := [d1, d2, d3] }
  | _ => none }
def listFirstRow : OpenClaim := { program := "ytnldmhljggcnpaa", sum := "56c42e525901c26ea25162385930be7e5ec3a66f075b3878c6e6771f034e0a47", func := "cantle/cantlelaw09.ListFirst", spec := "listFirst", plainKeys := false, apart := false }
def ListFirstSaid : Prop := listFirstRow.holds Try.pinned (OpenSpec.ofChange listFirstSpec)

/-- ITS FALSE NEIGHBOUR: 'it returns false'. Refute it at one input. -/
def listFirstWrong : ChangeSpec := { name := "listFirst", fn := fun _ => fun
  | [d1, d2, d3] => { results := [.lit (.bool false)], args := [d1, d2, d3] }
  | _ => none }
def ListFirstWrongFalsely : Prop := listFirstRow.holds Try.pinned (OpenSpec.ofChange listFirstWrong)

/-- 'cantlelaw10.FitAll': WHATEVER THE INPUT: true; the input reads as it did. -/
def fitAllSpec : ChangeSpec := { name := "fitAll", fn := fun _ => fun
  | [d1, d2, d3] => { results := [.lit (.bool true)], args := [d1, d2, d3] }
  | _ => none }
def fitAllRow : OpenClaim := { program := "ytnldmhljggcnpaa", sum := "56c42e525901c26ea25162385930be7e5ec3a66f075b3878c6e6771f034e0a47", func := "cantle/cantlelaw10.FitAll", spec := "fitAll", plainKeys := false, apart := false }
def FitAllSaid : Prop := fitAllRow.holds Try.pinned (OpenSpec.ofChange fitAllSpec)

/-- ITS FALSE NEIGHBOUR: 'it returns false'. Refute it at one input. -/
def fitAllWrong : ChangeSpec := { name := "fitAll", fn := fun _ => fun
  | [d1, d2, d3] => { results := [.lit (.bool false)], args := [d1, d2, d3] }
  | _ => none }
def FitAllWrongFalsely : Prop := fitAllRow.holds Try.pinned (OpenSpec.ofChange fitAllWrong)

/-- 'cantlelaw10.FitTells': WHATEVER THE INPUT: true; the input reads as it did. -/
def fitTellsSpec : ChangeSpec := { name := "fitTells", fn := fun _ => fun
  | [d1, d2, d3] => { results := [.lit (.bool true)], args := [d1, d2, d3] }
  | _ => none }
def fitTellsRow : OpenClaim := { program := "ytnldmhljggcnpaa", sum := "56c42e525901c26ea25162385930be7e5ec3a66f075b3878c6e6771f034e0a47", func := "cantle/cantlelaw10.FitTells", spec := "fitTells", plainKeys := false, apart := false }
def FitTellsSaid : Prop := fitTellsRow.holds Try.pinned (OpenSpec.ofChange fitTellsSpec)

/-- ITS FALSE NEIGHBOUR: 'it returns false'. Refute it at one input. -/
def fitTellsWrong : ChangeSpec := { name := "fitTells", fn := fun _ => fun
  | [d1, d2, d3] => { results := [.lit (.bool false)], args := [d1, d2, d3] }
  | _ => none }
def FitTellsWrongFalsely : Prop := fitTellsRow.holds Try.pinned (OpenSpec.ofChange fitTellsWrong)

/-- 'cantlelaw11.CheckBuilt': WHATEVER THE INPUT: true; the input reads as it did. -/
def checkBuiltSpec : ChangeSpec := { name := "checkBuilt", fn := fun _ => fun
  | [d1, d2, d3, d4] => { results := [.lit (.bool true)], args := [d1, d2, d3, d4] }
  | _ => none }
def checkBuiltRow : OpenClaim := { program := "ytnldmhljggcnpaa", sum := "56c42e525901c26ea25162385930be7e5ec3a66f075b3878c6e6771f034e0a47", func := "cantle/cantlelaw11.CheckBuilt", spec := "checkBuilt", plainKeys := false, apart := false }
def CheckBuiltSaid : Prop := checkBuiltRow.holds Try.pinned (OpenSpec.ofChange checkBuiltSpec)

/-- ITS FALSE NEIGHBOUR: 'it returns false'. Refute it at one input. -/
def checkBuiltWrong : ChangeSpec := { name := "checkBuilt", fn := fun _ => fun
  | [d1, d2, d3, d4] => { results := [.lit (.bool false)], args := [d1, d2, d3, d4] }
  | _ => none }
def CheckBuiltWrongFalsely : Prop := checkBuiltRow.holds Try.pinned (OpenSpec.ofChange checkBuiltWrong)

/-- 'cantlelaw16.RestoreTells': WHATEVER THE INPUT: true; the input reads as it did. -/
def restoreTellsSpec : ChangeSpec := { name := "restoreTells", fn := fun _ => fun
  | [d1, d2, d3, d4, d5] => { results := [.lit (.bool true)], args := [d1, d2, d3, d4, d5] }
  | _ => none }
def restoreTellsRow : OpenClaim := { program := "ytnldmhljggcnpaa", sum := "56c42e525901c26ea25162385930be7e5ec3a66f075b3878c6e6771f034e0a47", func := "cantle/cantlelaw16.RestoreTells", spec := "restoreTells", plainKeys := false, apart := false }
def RestoreTellsSaid : Prop := restoreTellsRow.holds Try.pinned (OpenSpec.ofChange restoreTellsSpec)

/-- ITS FALSE NEIGHBOUR: 'it returns false'. Refute it at one input. -/
def restoreTellsWrong : ChangeSpec := { name := "restoreTells", fn := fun _ => fun
  | [d1, d2, d3, d4, d5] => { results := [.lit (.bool false)], args := [d1, d2, d3, d4, d5] }
  | _ => none }
def RestoreTellsWrongFalsely : Prop := restoreTellsRow.holds Try.pinned (OpenSpec.ofChange restoreTellsWrong)

/-- 'cantlelaw16.RestoreBack': WHATEVER THE INPUT: true; the input reads as it did. -/
def restoreBackSpec : ChangeSpec := { name := "restoreBack", fn := fun _ => fun
  | [d1, d2, d3, d4, d5] => { results := [.lit (.bool true)], args := [d1, d2, d3, d4, d5] }
  | _ => none }
def restoreBackRow : OpenClaim := { program := "ytnldmhljggcnpaa", sum := "56c42e525901c26ea25162385930be7e5ec3a66f075b3878c6e6771f034e0a47", func := "cantle/cantlelaw16.RestoreBack", spec := "restoreBack", plainKeys := false, apart := false }
def RestoreBackSaid : Prop := restoreBackRow.holds Try.pinned (OpenSpec.ofChange restoreBackSpec)

/-- ITS FALSE NEIGHBOUR: 'it returns false'. Refute it at one input. -/
def restoreBackWrong : ChangeSpec := { name := "restoreBack", fn := fun _ => fun
  | [d1, d2, d3, d4, d5] => { results := [.lit (.bool false)], args := [d1, d2, d3, d4, d5] }
  | _ => none }
def RestoreBackWrongFalsely : Prop := restoreBackRow.holds Try.pinned (OpenSpec.ofChange restoreBackWrong)

/-- 'cantlelaw12.AllocPlays': WHATEVER THE INPUT: true; the input reads as it did. -/
def allocPlaysSpec : ChangeSpec := { name := "allocPlays", fn := fun _ => fun
  | [d1, d2, d3] => { results := [.lit (.bool true)], args := [d1, d2, d3] }
  | _ => none }
def allocPlaysRow : OpenClaim := { program := "ytnldmhljggcnpaa", sum := "56c42e525901c26ea25162385930be7e5ec3a66f075b3878c6e6771f034e0a47", func := "cantle/cantlelaw12.AllocPlays", spec := "allocPlays", plainKeys := false, apart := false }
def AllocPlaysSaid : Prop := allocPlaysRow.holds Try.pinned (OpenSpec.ofChange allocPlaysSpec)

/-- ITS FALSE NEIGHBOUR: 'it returns false'. Refute it at one input. -/
def allocPlaysWrong : ChangeSpec := { name := "allocPlays", fn := fun _ => fun
  | [d1, d2, d3] => { results := [.lit (.bool false)], args := [d1, d2, d3] }
  | _ => none }
def AllocPlaysWrongFalsely : Prop := allocPlaysRow.holds Try.pinned (OpenSpec.ofChange allocPlaysWrong)

/-- 'cantlelaw12.AllocRoom': WHATEVER THE INPUT: true; the input reads as it did. -/
def allocRoomSpec : ChangeSpec := { name := "allocRoom", fn := fun _ => fun
  | [d1, d2, d3] => { results := [.lit (.bool true)], args := [d1, d2, d3] }
  | _ => none }
def allocRoomRow : OpenClaim := { program := "ytnldmhljggcnpaa", sum := "56c42e525901c26ea25162385930be7e5ec3a66f075b3878c6e6771f034e0a47", func := "cantle/cantlelaw12.AllocRoom", spec := "allocRoom", plainKeys := false, apart := false }
def AllocRoomSaid : Prop := allocRoomRow.holds Try.pinned (OpenSpec.ofChange allocRoomSpec)

/-- ITS FALSE NEIGHBOUR: 'it returns false'. Refute it at one input. -/
def allocRoomWrong : ChangeSpec := { name := "allocRoom", fn := fun _ => fun
  | [d1, d2, d3] => { results := [.lit (.bool false)], args := [d1, d2, d3] }
  | _ => none }
def AllocRoomWrongFalsely : Prop := allocRoomRow.holds Try.pinned (OpenSpec.ofChange allocRoomWrong)

/-- 'cantlelaw13.ResizePlays': WHATEVER THE INPUT: true; the input reads as it did. -/
def resizePlaysSpec : ChangeSpec := { name := "resizePlays", fn := fun _ => fun
  | [d1, d2, d3] => { results := [.lit (.bool true)], args := [d1, d2, d3] }
  | _ => none }
def resizePlaysRow : OpenClaim := { program := "ytnldmhljggcnpaa", sum := "56c42e525901c26ea25162385930be7e5ec3a66f075b3878c6e6771f034e0a47", func := "cantle/cantlelaw13.ResizePlays", spec := "resizePlays", plainKeys := false, apart := false }
def ResizePlaysSaid : Prop := resizePlaysRow.holds Try.pinned (OpenSpec.ofChange resizePlaysSpec)

/-- ITS FALSE NEIGHBOUR: 'it returns false'. Refute it at one input. -/
def resizePlaysWrong : ChangeSpec := { name := "resizePlays", fn := fun _ => fun
  | [d1, d2, d3] => { results := [.lit (.bool false)], args := [d1, d2, d3] }
  | _ => none }
def ResizePlaysWrongFalsely : Prop := resizePlaysRow.holds Try.pinned (OpenSpec.ofChange resizePlaysWrong)

/-- 'cantlelaw13.ResizeKeeps': WHATEVER THE INPUT: true; the input reads as it did. -/
def resizeKeepsSpec : ChangeSpec := { name := "resizeKeeps", fn := fun _ => fun
  | [d1, d2, d3, d4] => { results := [.lit (.bool true)], args := [d1, d2, d3, d4] }
  | _ => none }
def resizeKeepsRow : OpenClaim := { program := "ytnldmhljggcnpaa", sum := "56c42e525901c26ea25162385930be7e5ec3a66f075b3878c6e6771f034e0a47", func := "cantle/cantlelaw13.ResizeKeeps", spec := "resizeKeeps", plainKeys := false, apart := false }
def ResizeKeepsSaid : Prop := resizeKeepsRow.holds Try.pinned (OpenSpec.ofChange resizeKeepsSpec)

/-- ITS FALSE NEIGHBOUR: 'it returns false'. Refute it at one input. -/
def resizeKeepsWrong : ChangeSpec := { name := "resizeKeeps", fn := fun _ => fun
  | [d1, d2, d3, d4] => { results := [.lit (.bool false)], args := [d1, d2, d3, d4] }
  | _ => none }
def ResizeKeepsWrongFalsely : Prop := resizeKeepsRow.holds Try.pinned (OpenSpec.ofChange resizeKeepsWrong)

/-- 'cantlelaw14.HeapOf': WHATEVER THE INPUT: true; the input reads as it did. -/
def heapOfSpec : ChangeSpec := { name := "heapOf", fn := fun _ => fun
  | [d1, d2] => { results := [.lit (.bool true)], args := [d1, d2] }
  | _ => none }
def heapOfRow : OpenClaim := { program := "ytnldmhljggcnpaa", sum := "56c42e525901c26ea25162385930be7e5ec3a66f075b3878c6e6771f034e0a47", func := "cantle/cantlelaw14.HeapOf", spec := "heapOf", plainKeys := false, apart := false }
def HeapOfSaid : Prop := heapOfRow.holds Try.pinned (OpenSpec.ofChange heapOfSpec)

/-- ITS FALSE NEIGHBOUR: 'it returns false'. Refute it at one input. -/
def heapOfWrong : ChangeSpec := { name := "heapOf", fn := fun _ => fun
  | [d1, d2] => { results := [.lit (.bool false)], args := [d1, d2] }
  | _ => none }
def HeapOfWrongFalsely : Prop := heapOfRow.holds Try.pinned (OpenSpec.ofChange heapOfWrong)

/-- 'cantlelaw14.HeapCalls': WHATEVER THE INPUT: true; the input reads as it did. -/
def heapCallsSpec : ChangeSpec := { name := "heapCalls", fn := fun _ => fun
  | [d1, d2] => { results := [.lit (.bool true)], args := [d1, d2] }
  | _ => none }
def heapCallsRow : OpenClaim := { program := "ytnldmhljggcnpaa", sum := "56c42e525901c26ea25162385930be7e5ec3a66f075b3878c6e6771f034e0a47", func := "cantle/cantlelaw14.HeapCalls", spec := "heapCalls", plainKeys := false, apart := false }
def HeapCallsSaid : Prop := heapCallsRow.holds Try.pinned (OpenSpec.ofChange heapCallsSpec)

/-- ITS FALSE NEIGHBOUR: 'it returns false'. Refute it at one input. -/
def heapCallsWrong : ChangeSpec := { name := "heapCalls", fn := fun _ => fun
  | [d1, d2] => { results := [.lit (.bool false)], args := [d1, d2] }
  | _ => none }
def HeapCallsWrongFalsely : Prop := heapCallsRow.holds Try.pinned (OpenSpec.ofChange heapCallsWrong)

/- THE SECOND FORM. 'bulk': how many values and letters a reading holds, each counted each time it is reached (what is shared counts as often as it is met; a slice's spare places count too). A statement '..UptoSaid' is the law's where the arguments, and the package variables that the reading takes, are together of bulk at most 1048576: NARROWER than '..Said'. Prove '..Said' where nothing that the law and all that it calls make is longer than what came in: it says more and counts as full. Else prove '..UptoSaid'. A law counts once. -/
mutual
def uptoBulk {H : Type} : DataW H → Nat
  | .lit (.string bytes) => bytes.length + 1
  | .lit _ => 1
  | .nil => 1
  | .ptr d => uptoBulk d + 1
  | .slice elems spare => uptoBulkAll elems + uptoBulkAll spare + 1
  | .agg parts => uptoBulkAll parts + 1
  | .iface _ d => uptoBulk d + 1
  | .map entries => uptoBulkEntries entries + 1
  | .held _ => 1
def uptoBulkAll {H : Type} : List (DataW H) → Nat
  | [] => 0
  | d :: r => uptoBulk d + uptoBulkAll r
def uptoBulkEntries {H : Type} : List (Lit × DataW H) → Nat
  | [] => 0
  | x :: r => uptoBulkEntry x + uptoBulkEntries r
def uptoBulkEntry {H : Type} : Lit × DataW H → Nat
  | (.string bytes, d) => bytes.length + uptoBulk d + 1
  | (_, d) => uptoBulk d + 1
 end
def uptoSmall : (H : Type) → List (DataW H) → Bool := fun _ ds => decide (uptoBulkAll ds ≤ 1048576)
def OpenSpec.upto (s : _root_.Go.ChangeSpec) : _root_.Go.OpenSpec := { _root_.Go.OpenSpec.ofChange s with cond := some uptoSmall }

/-- 'cantlelaw15.ImageBack', WHERE WHAT IT READS IS OF BULK AT MOST 1048576: true; the input reads as it did. -/
def imageBackUptoRow : OpenClaim := { program := "ytnldmhljggcnpaa", sum := "56c42e525901c26ea25162385930be7e5ec3a66f075b3878c6e6771f034e0a47", func := "cantle/cantlelaw15.ImageBack", spec := "imageBack", inPlace := ["internal/bytealg.MakeNoZero"], plainKeys := false, apart := false, narrowed := true }
def ImageBackUptoSaid : Prop := imageBackUptoRow.holds Try.pinned (OpenSpec.upto imageBackSpec)

/-- 'cantlelaw11.CheckTells', WHERE WHAT IT READS IS OF BULK AT MOST 1048576: true; the input reads as it did. -/
def checkTellsUptoRow : OpenClaim := { program := "ytnldmhljggcnpaa", sum := "56c42e525901c26ea25162385930be7e5ec3a66f075b3878c6e6771f034e0a47", func := "cantle/cantlelaw11.CheckTells", spec := "checkTells", plainKeys := false, apart := false, narrowed := true }
def CheckTellsUptoSaid : Prop := checkTellsUptoRow.holds Try.pinned (OpenSpec.upto checkTellsSpec)

/-- 'cantlelaw09.ListFirst', WHERE WHAT IT READS IS OF BULK AT MOST 1048576: true; the input reads as it did. -/
def listFirstUptoRow : OpenClaim := { program := "ytnldmhljggcnpaa", sum := "56c42e525901c26ea25162385930be7e5ec3a66f075b3878c6e6771f034e0a47", func := "cantle/cantlelaw09.ListFirst", spec := "listFirst", plainKeys := false, apart := false, narrowed := true }
def ListFirstUptoSaid : Prop := listFirstUptoRow.holds Try.pinned (OpenSpec.upto listFirstSpec)

/-- 'cantlelaw10.FitAll', WHERE WHAT IT READS IS OF BULK AT MOST 1048576: true; the input reads as it did. -/
def fitAllUptoRow : OpenClaim := { program := "ytnldmhljggcnpaa", sum := "56c42e525901c26ea25162385930be7e5ec3a66f075b3878c6e6771f034e0a47", func := "cantle/cantlelaw10.FitAll", spec := "fitAll", plainKeys := false, apart := false, narrowed := true }
def FitAllUptoSaid : Prop := fitAllUptoRow.holds Try.pinned (OpenSpec.upto fitAllSpec)

/-- 'cantlelaw10.FitTells', WHERE WHAT IT READS IS OF BULK AT MOST 1048576: true; the input reads as it did. -/
def fitTellsUptoRow : OpenClaim := { program := "ytnldmhljggcnpaa", sum := "56c42e525901c26ea25162385930be7e5ec3a66f075b3878c6e6771f034e0a47", func := "cantle/cantlelaw10.FitTells", spec := "fitTells", plainKeys := false, apart := false, narrowed := true }
def FitTellsUptoSaid : Prop := fitTellsUptoRow.holds Try.pinned (OpenSpec.upto fitTellsSpec)

/-- 'cantlelaw11.CheckBuilt', WHERE WHAT IT READS IS OF BULK AT MOST 1048576: true; the input reads as it did. -/
def checkBuiltUptoRow : OpenClaim := { program := "ytnldmhljggcnpaa", sum := "56c42e525901c26ea25162385930be7e5ec3a66f075b3878c6e6771f034e0a47", func := "cantle/cantlelaw11.CheckBuilt", spec := "checkBuilt", plainKeys := false, apart := false, narrowed := true }
def CheckBuiltUptoSaid : Prop := checkBuiltUptoRow.holds Try.pinned (OpenSpec.upto checkBuiltSpec)

/-- 'cantlelaw16.RestoreTells', WHERE WHAT IT READS IS OF BULK AT MOST 1048576: true; the input reads as it did. -/
def restoreTellsUptoRow : OpenClaim := { program := "ytnldmhljggcnpaa", sum := "56c42e525901c26ea25162385930be7e5ec3a66f075b3878c6e6771f034e0a47", func := "cantle/cantlelaw16.RestoreTells", spec := "restoreTells", plainKeys := false, apart := false, narrowed := true }
def RestoreTellsUptoSaid : Prop := restoreTellsUptoRow.holds Try.pinned (OpenSpec.upto restoreTellsSpec)

/-- 'cantlelaw16.RestoreBack', WHERE WHAT IT READS IS OF BULK AT MOST 1048576: true; the input reads as it did. -/
def restoreBackUptoRow : OpenClaim := { program := "ytnldmhljggcnpaa", sum := "56c42e525901c26ea25162385930be7e5ec3a66f075b3878c6e6771f034e0a47", func := "cantle/cantlelaw16.RestoreBack", spec := "restoreBack", plainKeys := false, apart := false, narrowed := true }
def RestoreBackUptoSaid : Prop := restoreBackUptoRow.holds Try.pinned (OpenSpec.upto restoreBackSpec)

/-- 'cantlelaw12.AllocPlays', WHERE WHAT IT READS IS OF BULK AT MOST 1048576: true; the input reads as it did. -/
def allocPlaysUptoRow : OpenClaim := { program := "ytnldmhljggcnpaa", sum := "56c42e525901c26ea25162385930be7e5ec3a66f075b3878c6e6771f034e0a47", func := "cantle/cantlelaw12.AllocPlays", spec := "allocPlays", plainKeys := false, apart := false, narrowed := true }
def AllocPlaysUptoSaid : Prop := allocPlaysUptoRow.holds Try.pinned (OpenSpec.upto allocPlaysSpec)

/-- 'cantlelaw12.AllocRoom', WHERE WHAT IT READS IS OF BULK AT MOST 1048576: true; the input reads as it did. -/
def allocRoomUptoRow : OpenClaim := { program := "ytnldmhljggcnpaa", sum := "56c42e525901c26ea25162385930be7e5ec3a66f075b3878c6e6771f034e0a47", func := "cantle/cantlelaw12.AllocRoom", spec := "allocRoom", plainKeys := false, apart := false, narrowed := true }
def AllocRoomUptoSaid : Prop := allocRoomUptoRow.holds Try.pinned (OpenSpec.upto allocRoomSpec)

/-- 'cantlelaw13.ResizePlays', WHERE WHAT IT READS IS OF BULK AT MOST 1048576: true; the input reads as it did. -/
def resizePlaysUptoRow : OpenClaim := { program := "ytnldmhljggcnpaa", sum := "56c42e525901c26ea25162385930be7e5ec3a66f075b3878c6e6771f034e0a47", func := "cantle/cantlelaw13.ResizePlays", spec := "resizePlays", plainKeys := false, apart := false, narrowed := true }
def ResizePlaysUptoSaid : Prop := resizePlaysUptoRow.holds Try.pinned (OpenSpec.upto resizePlaysSpec)

/-- 'cantlelaw13.ResizeKeeps', WHERE WHAT IT READS IS OF BULK AT MOST 1048576: true; the input reads as it did. -/
def resizeKeepsUptoRow : OpenClaim := { program := "ytnldmhljggcnpaa", sum := "56c42e525901c26ea25162385930be7e5ec3a66f075b3878c6e6771f034e0a47", func := "cantle/cantlelaw13.ResizeKeeps", spec := "resizeKeeps", plainKeys := false, apart := false, narrowed := true }
def ResizeKeepsUptoSaid : Prop := resizeKeepsUptoRow.holds Try.pinned (OpenSpec.upto resizeKeepsSpec)

/-- 'cantlelaw14.HeapOf', WHERE WHAT IT READS IS OF BULK AT MOST 1048576: true; the input reads as it did. -/
def heapOfUptoRow : OpenClaim := { program := "ytnldmhljggcnpaa", sum := "56c42e525901c26ea25162385930be7e5ec3a66f075b3878c6e6771f034e0a47", func := "cantle/cantlelaw14.HeapOf", spec := "heapOf", plainKeys := false, apart := false, narrowed := true }
def HeapOfUptoSaid : Prop := heapOfUptoRow.holds Try.pinned (OpenSpec.upto heapOfSpec)

/-- 'cantlelaw14.HeapCalls', WHERE WHAT IT READS IS OF BULK AT MOST 1048576: true; the input reads as it did. -/
def heapCallsUptoRow : OpenClaim := { program := "ytnldmhljggcnpaa", sum := "56c42e525901c26ea25162385930be7e5ec3a66f075b3878c6e6771f034e0a47", func := "cantle/cantlelaw14.HeapCalls", spec := "heapCalls", plainKeys := false, apart := false, narrowed := true }
def HeapCallsUptoSaid : Prop := heapCallsUptoRow.holds Try.pinned (OpenSpec.upto heapCallsSpec)

end Rows
end Go.Proofs.Ytnldmhljggcnpaa
