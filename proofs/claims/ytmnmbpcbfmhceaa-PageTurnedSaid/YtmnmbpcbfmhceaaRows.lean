/-
  No cell of these rows narrows 'for every input' (looked for: loops, veiled, ifaces, maps, wideKeys, modest, calm, conditions, laid).
  DERIVED. THE GIVEN ROWS OF THIS SEAT. 23 by the template 'for every input the law returns true; each argument reads behind the call as it read before'; 0 by the template 'total and deterministic' (their statements: YtmnmbpcbfmhceaaTotals.lean).
  GIVEN WITH THE SEED: the statements are not yours to turn. If you find one false, say at which input.
  Laid BY PROGRAM, IN A SANDBOX (cutbox-rows.mjs): the forced cells as the released guide's own fill.sh prints them over the translation db664335726d1cae… (all of the seat's roots in one cut). By AI agents, Wed Nov 11 2026. No macro, syntax, notation, axiom, sorry.
-/
import Derived.Test.YtmnmbpcbfmhceaaChecked
import GoSem.Claim
import GoSem.ClaimJoined
import GoSem.ClaimMapViews
import Derived.JoinedTies
import Derived.KernelRfl
namespace Go.Proofs.Ytmnmbpcbfmhceaa
/- THE CELL 'sum', in the pinned program and in every row, IS THE sha256 OF THE DUMP (.gsa) THAT YtmnmbpcbfmhceaaProg.lean LOADS. Nothing in Lean hashes anything: it is a label: what it is worth is what the hold of that sum in a sandbox is worth. -/
noncomputable def Try.pinned : Pinned := { name := "ytmnmbpcbfmhceaa", sum := "db664335726d1caef4bbc73a9dc3186ebc17cc94f0e524f6da2ece8be99810eb", checked := Try.checked }
namespace Rows
def none {H : Type} : Left H := { results := [], args := [] }

/-- 'varvelaw10.RingWhole': WHATEVER THE INPUT: true; the input reads as it did. -/
def ringWholeSpec : ChangeSpec := { name := "ringWhole", fn := fun _ => fun
  | [d1, d2, d3] => { results := [.lit (.bool true)], args := [d1, d2, d3] }
  | _ => none }
def ringWholeRow : OpenClaim := { program := "ytmnmbpcbfmhceaa", sum := "db664335726d1caef4bbc73a9dc3186ebc17cc94f0e524f6da2ece8be99810eb", func := "varve/varvelaw10.RingWhole", spec := "ringWhole", unfollowed := true, recurses := true, plainKeys := false, apart := false }
def RingWholeSaid : Prop := ringWholeRow.holds Try.pinned (OpenSpec.ofChange ringWholeSpec)

/-- ITS FALSE NEIGHBOUR: 'it returns false'. Refute it at one input. -/
def ringWholeWrong : ChangeSpec := { name := "ringWhole", fn := fun _ => fun
  | [d1, d2, d3] => { results := [.lit (.bool false)], args := [d1, d2, d3] }
  | _ => none }
def RingWholeWrongFalsely : Prop := ringWholeRow.holds Try.pinned (OpenSpec.ofChange ringWholeWrong)

/-- 'varvelaw05.DiskLasts': WHATEVER THE INPUT: true; the input reads as it did. -/
def diskLastsSpec : ChangeSpec := { name := "diskLasts", fn := fun _ => fun
  | [d1, d2, d3] => { results := [.lit (.bool true)], args := [d1, d2, d3] }
  | _ => none }
def diskLastsRow : OpenClaim := { program := "ytmnmbpcbfmhceaa", sum := "db664335726d1caef4bbc73a9dc3186ebc17cc94f0e524f6da2ece8be99810eb", func := "varve/varvelaw05.DiskLasts", spec := "diskLasts", plainKeys := false, apart := false }
def DiskLastsSaid : Prop := diskLastsRow.holds Try.pinned (OpenSpec.ofChange diskLastsSpec)

/-- ITS FALSE NEIGHBOUR: 'it returns false'. Refute it at one input. -/
def diskLastsWrong : ChangeSpec := { name := "diskLasts", fn := fun _ => fun
  | [d1, d2, d3] => { results := [.lit (.bool false)], args := [d1, d2, d3] }
  | _ => none }
def DiskLastsWrongFalsely : Prop := diskLastsRow.holds Try.pinned (OpenSpec.ofChange diskLastsWrong)

/-- 'varvelaw05.DiskFuse': WHATEVER THE INPUT: true; the input reads as it did. -/
def diskFuseSpec : ChangeSpec := { name := "diskFuse", fn := fun _ => fun
  | [d1, d2] => { results := [.lit (.bool true)], args := [d1, d2] }
  | _ => none }
def diskFuseRow : OpenClaim := { program := "ytmnmbpcbfmhceaa", sum := "db664335726d1caef4bbc73a9dc3186ebc17cc94f0e524f6da2ece8be99810eb", func := "varve/varvelaw05.DiskFuse", spec := "diskFuse", plainKeys := false, apart := false }
def DiskFuseSaid : Prop := diskFuseRow.holds Try.pinned (OpenSpec.ofChange diskFuseSpec)

/-- ITS FALSE NEIGHBOUR: 'it returns false'. Refute it at one input. -/
def diskFuseWrong : ChangeSpec := { name := "diskFuse", fn := fun _ => fun
  | [d1, d2] => { results := [.lit (.bool false)], args := [d1, d2] }
  | _ => none }
def DiskFuseWrongFalsely : Prop := diskFuseRow.holds Try.pinned (OpenSpec.ofChange diskFuseWrong)

/-- 'varvelaw05.DiskKept': WHATEVER THE INPUT: true; the input reads as it did. -/
def diskKeptSpec : ChangeSpec := { name := "diskKept", fn := fun _ => fun
  | [d1, d2] => { results := [.lit (.bool true)], args := [d1, d2] }
  | _ => none }
def diskKeptRow : OpenClaim := { program := "ytmnmbpcbfmhceaa", sum := "db664335726d1caef4bbc73a9dc3186ebc17cc94f0e524f6da2ece8be99810eb", func := "varve/varvelaw05.DiskKept", spec := "diskKept", plainKeys := false, apart := false }
def DiskKeptSaid : Prop := diskKeptRow.holds Try.pinned (OpenSpec.ofChange diskKeptSpec)

/-- ITS FALSE NEIGHBOUR: 'it returns false'. Refute it at one input. -/
def diskKeptWrong : ChangeSpec := { name := "diskKept", fn := fun _ => fun
  | [d1, d2] => { results := [.lit (.bool false)], args := [d1, d2] }
  | _ => none }
def DiskKeptWrongFalsely : Prop := diskKeptRow.holds Try.pinned (OpenSpec.ofChange diskKeptWrong)

/-- 'varvelaw05.DiskPlays': WHATEVER THE INPUT: true; the input reads as it did. -/
def diskPlaysSpec : ChangeSpec := { name := "diskPlays", fn := fun _ => fun
  | [d1, d2] => { results := [.lit (.bool true)], args := [d1, d2] }
  | _ => none }
def diskPlaysRow : OpenClaim := { program := "ytmnmbpcbfmhceaa", sum := "db664335726d1caef4bbc73a9dc3186ebc17cc94f0e524f6da2ece8be99810eb", func := "varve/varvelaw05.DiskPlays", spec := "diskPlays", plainKeys := false, apart := false }
def DiskPlaysSaid : Prop := diskPlaysRow.holds Try.pinned (OpenSpec.ofChange diskPlaysSpec)

/-- ITS FALSE NEIGHBOUR: 'it returns false'. Refute it at one input. -/
def diskPlaysWrong : ChangeSpec := { name := "diskPlays", fn := fun _ => fun
  | [d1, d2] => { results := [.lit (.bool false)], args := [d1, d2] }
  | _ => none }
def DiskPlaysWrongFalsely : Prop := diskPlaysRow.holds Try.pinned (OpenSpec.ofChange diskPlaysWrong)

/-- 'varvelaw05.DiskFails': WHATEVER THE INPUT: true; the input reads as it did. -/
def diskFailsSpec : ChangeSpec := { name := "diskFails", fn := fun _ => fun
  | [d1, d2] => { results := [.lit (.bool true)], args := [d1, d2] }
  | _ => none }
def diskFailsRow : OpenClaim := { program := "ytmnmbpcbfmhceaa", sum := "db664335726d1caef4bbc73a9dc3186ebc17cc94f0e524f6da2ece8be99810eb", func := "varve/varvelaw05.DiskFails", spec := "diskFails", plainKeys := false, apart := false }
def DiskFailsSaid : Prop := diskFailsRow.holds Try.pinned (OpenSpec.ofChange diskFailsSpec)

/-- ITS FALSE NEIGHBOUR: 'it returns false'. Refute it at one input. -/
def diskFailsWrong : ChangeSpec := { name := "diskFails", fn := fun _ => fun
  | [d1, d2] => { results := [.lit (.bool false)], args := [d1, d2] }
  | _ => none }
def DiskFailsWrongFalsely : Prop := diskFailsRow.holds Try.pinned (OpenSpec.ofChange diskFailsWrong)

/-- 'varvelaw05.DiskNone': WHATEVER THE INPUT: true; the input reads as it did. -/
def diskNoneSpec : ChangeSpec := { name := "diskNone", fn := fun _ => fun
  | [d] => { results := [.lit (.bool true)], args := [d] }
  | _ => none }
def diskNoneRow : OpenClaim := { program := "ytmnmbpcbfmhceaa", sum := "db664335726d1caef4bbc73a9dc3186ebc17cc94f0e524f6da2ece8be99810eb", func := "varve/varvelaw05.DiskNone", spec := "diskNone", plainKeys := false, apart := false }
def DiskNoneSaid : Prop := diskNoneRow.holds Try.pinned (OpenSpec.ofChange diskNoneSpec)

/-- ITS FALSE NEIGHBOUR: 'it returns false'. Refute it at one input. -/
def diskNoneWrong : ChangeSpec := { name := "diskNone", fn := fun _ => fun
  | [d] => { results := [.lit (.bool false)], args := [d] }
  | _ => none }
def DiskNoneWrongFalsely : Prop := diskNoneRow.holds Try.pinned (OpenSpec.ofChange diskNoneWrong)

/-- 'varvelaw06.PageData': WHATEVER THE INPUT: true; the input reads as it did. -/
def pageDataSpec : ChangeSpec := { name := "pageData", fn := fun _ => fun
  | [d1, d2, d3] => { results := [.lit (.bool true)], args := [d1, d2, d3] }
  | _ => none }
def pageDataRow : OpenClaim := { program := "ytmnmbpcbfmhceaa", sum := "db664335726d1caef4bbc73a9dc3186ebc17cc94f0e524f6da2ece8be99810eb", func := "varve/varvelaw06.PageData", spec := "pageData", plainKeys := false, apart := false }
def PageDataSaid : Prop := pageDataRow.holds Try.pinned (OpenSpec.ofChange pageDataSpec)

/-- ITS FALSE NEIGHBOUR: 'it returns false'. Refute it at one input. -/
def pageDataWrong : ChangeSpec := { name := "pageData", fn := fun _ => fun
  | [d1, d2, d3] => { results := [.lit (.bool false)], args := [d1, d2, d3] }
  | _ => none }
def PageDataWrongFalsely : Prop := pageDataRow.holds Try.pinned (OpenSpec.ofChange pageDataWrong)

/-- 'varvelaw06.PageUndos': WHATEVER THE INPUT: true; the input reads as it did. -/
def pageUndosSpec : ChangeSpec := { name := "pageUndos", fn := fun _ => fun
  | [d1, d2, d3] => { results := [.lit (.bool true)], args := [d1, d2, d3] }
  | _ => none }
def pageUndosRow : OpenClaim := { program := "ytmnmbpcbfmhceaa", sum := "db664335726d1caef4bbc73a9dc3186ebc17cc94f0e524f6da2ece8be99810eb", func := "varve/varvelaw06.PageUndos", spec := "pageUndos", plainKeys := false, apart := false }
def PageUndosSaid : Prop := pageUndosRow.holds Try.pinned (OpenSpec.ofChange pageUndosSpec)

/-- ITS FALSE NEIGHBOUR: 'it returns false'. Refute it at one input. -/
def pageUndosWrong : ChangeSpec := { name := "pageUndos", fn := fun _ => fun
  | [d1, d2, d3] => { results := [.lit (.bool false)], args := [d1, d2, d3] }
  | _ => none }
def PageUndosWrongFalsely : Prop := pageUndosRow.holds Try.pinned (OpenSpec.ofChange pageUndosWrong)

/-- 'varvelaw06.PageKinds': WHATEVER THE INPUT: true; the input reads as it did. -/
def pageKindsSpec : ChangeSpec := { name := "pageKinds", fn := fun _ => fun
  | [d1, d2, d3] => { results := [.lit (.bool true)], args := [d1, d2, d3] }
  | _ => none }
def pageKindsRow : OpenClaim := { program := "ytmnmbpcbfmhceaa", sum := "db664335726d1caef4bbc73a9dc3186ebc17cc94f0e524f6da2ece8be99810eb", func := "varve/varvelaw06.PageKinds", spec := "pageKinds", plainKeys := false, apart := false }
def PageKindsSaid : Prop := pageKindsRow.holds Try.pinned (OpenSpec.ofChange pageKindsSpec)

/-- ITS FALSE NEIGHBOUR: 'it returns false'. Refute it at one input. -/
def pageKindsWrong : ChangeSpec := { name := "pageKinds", fn := fun _ => fun
  | [d1, d2, d3] => { results := [.lit (.bool false)], args := [d1, d2, d3] }
  | _ => none }
def PageKindsWrongFalsely : Prop := pageKindsRow.holds Try.pinned (OpenSpec.ofChange pageKindsWrong)

/-- 'varvelaw06.PageBack': WHATEVER THE INPUT: true; the input reads as it did. -/
def pageBackSpec : ChangeSpec := { name := "pageBack", fn := fun _ => fun
  | [d1, d2, d3] => { results := [.lit (.bool true)], args := [d1, d2, d3] }
  | _ => none }
def pageBackRow : OpenClaim := { program := "ytmnmbpcbfmhceaa", sum := "db664335726d1caef4bbc73a9dc3186ebc17cc94f0e524f6da2ece8be99810eb", func := "varve/varvelaw06.PageBack", spec := "pageBack", plainKeys := false, apart := false }
def PageBackSaid : Prop := pageBackRow.holds Try.pinned (OpenSpec.ofChange pageBackSpec)

/-- ITS FALSE NEIGHBOUR: 'it returns false'. Refute it at one input. -/
def pageBackWrong : ChangeSpec := { name := "pageBack", fn := fun _ => fun
  | [d1, d2, d3] => { results := [.lit (.bool false)], args := [d1, d2, d3] }
  | _ => none }
def PageBackWrongFalsely : Prop := pageBackRow.holds Try.pinned (OpenSpec.ofChange pageBackWrong)

/-- 'varvelaw06.PageTurned': WHATEVER THE INPUT: true; the input reads as it did. -/
def pageTurnedSpec : ChangeSpec := { name := "pageTurned", fn := fun _ => fun
  | [d1, d2, d3, d4, d5] => { results := [.lit (.bool true)], args := [d1, d2, d3, d4, d5] }
  | _ => none }
def pageTurnedRow : OpenClaim := { program := "ytmnmbpcbfmhceaa", sum := "db664335726d1caef4bbc73a9dc3186ebc17cc94f0e524f6da2ece8be99810eb", func := "varve/varvelaw06.PageTurned", spec := "pageTurned", plainKeys := false, apart := false }
def PageTurnedSaid : Prop := pageTurnedRow.holds Try.pinned (OpenSpec.ofChange pageTurnedSpec)

/-- ITS FALSE NEIGHBOUR: 'it returns false'. Refute it at one input. -/
def pageTurnedWrong : ChangeSpec := { name := "pageTurned", fn := fun _ => fun
  | [d1, d2, d3, d4, d5] => { results := [.lit (.bool false)], args := [d1, d2, d3, d4, d5] }
  | _ => none }
def PageTurnedWrongFalsely : Prop := pageTurnedRow.holds Try.pinned (OpenSpec.ofChange pageTurnedWrong)

/-- 'varvelaw06.PageUnlike': WHATEVER THE INPUT: true; the input reads as it did. -/
def pageUnlikeSpec : ChangeSpec := { name := "pageUnlike", fn := fun _ => fun
  | [d1, d2, d3, d4] => { results := [.lit (.bool true)], args := [d1, d2, d3, d4] }
  | _ => none }
def pageUnlikeRow : OpenClaim := { program := "ytmnmbpcbfmhceaa", sum := "db664335726d1caef4bbc73a9dc3186ebc17cc94f0e524f6da2ece8be99810eb", func := "varve/varvelaw06.PageUnlike", spec := "pageUnlike", plainKeys := false, apart := false }
def PageUnlikeSaid : Prop := pageUnlikeRow.holds Try.pinned (OpenSpec.ofChange pageUnlikeSpec)

/-- ITS FALSE NEIGHBOUR: 'it returns false'. Refute it at one input. -/
def pageUnlikeWrong : ChangeSpec := { name := "pageUnlike", fn := fun _ => fun
  | [d1, d2, d3, d4] => { results := [.lit (.bool false)], args := [d1, d2, d3, d4] }
  | _ => none }
def PageUnlikeWrongFalsely : Prop := pageUnlikeRow.holds Try.pinned (OpenSpec.ofChange pageUnlikeWrong)

/-- 'varvelaw19.MasterPacks': WHATEVER THE INPUT: true; the input reads as it did. -/
def masterPacksSpec : ChangeSpec := { name := "masterPacks", fn := fun _ => fun
  | [d1, d2] => { results := [.lit (.bool true)], args := [d1, d2] }
  | _ => none }
def masterPacksRow : OpenClaim := { program := "ytmnmbpcbfmhceaa", sum := "db664335726d1caef4bbc73a9dc3186ebc17cc94f0e524f6da2ece8be99810eb", func := "varve/varvelaw19.MasterPacks", spec := "masterPacks", unfollowed := true, recurses := true, plainKeys := false, apart := false }
def MasterPacksSaid : Prop := masterPacksRow.holds Try.pinned (OpenSpec.ofChange masterPacksSpec)

/-- ITS FALSE NEIGHBOUR: 'it returns false'. Refute it at one input. -/
def masterPacksWrong : ChangeSpec := { name := "masterPacks", fn := fun _ => fun
  | [d1, d2] => { results := [.lit (.bool false)], args := [d1, d2] }
  | _ => none }
def MasterPacksWrongFalsely : Prop := masterPacksRow.holds Try.pinned (OpenSpec.ofChange masterPacksWrong)

/-- 'varvelaw19.MasterBack': WHATEVER THE INPUT: true; the input reads as it did. -/
def masterBackSpec : ChangeSpec := { name := "masterBack", fn := fun _ => fun
  | [d1, d2] => { results := [.lit (.bool true)], args := [d1, d2] }
  | _ => none }
def masterBackRow : OpenClaim := { program := "ytmnmbpcbfmhceaa", sum := "db664335726d1caef4bbc73a9dc3186ebc17cc94f0e524f6da2ece8be99810eb", func := "varve/varvelaw19.MasterBack", spec := "masterBack", unfollowed := true, recurses := true, plainKeys := false, apart := false }
def MasterBackSaid : Prop := masterBackRow.holds Try.pinned (OpenSpec.ofChange masterBackSpec)

/-- ITS FALSE NEIGHBOUR: 'it returns false'. Refute it at one input. -/
def masterBackWrong : ChangeSpec := { name := "masterBack", fn := fun _ => fun
  | [d1, d2] => { results := [.lit (.bool false)], args := [d1, d2] }
  | _ => none }
def MasterBackWrongFalsely : Prop := masterBackRow.holds Try.pinned (OpenSpec.ofChange masterBackWrong)

/-- 'varvelaw19.MasterNone': WHATEVER THE INPUT: true; the input reads as it did. -/
def masterNoneSpec : ChangeSpec := { name := "masterNone", fn := fun _ => fun
  | [d1, d2] => { results := [.lit (.bool true)], args := [d1, d2] }
  | _ => none }
def masterNoneRow : OpenClaim := { program := "ytmnmbpcbfmhceaa", sum := "db664335726d1caef4bbc73a9dc3186ebc17cc94f0e524f6da2ece8be99810eb", func := "varve/varvelaw19.MasterNone", spec := "masterNone", unfollowed := true, recurses := true, plainKeys := false, apart := false }
def MasterNoneSaid : Prop := masterNoneRow.holds Try.pinned (OpenSpec.ofChange masterNoneSpec)

/-- ITS FALSE NEIGHBOUR: 'it returns false'. Refute it at one input. -/
def masterNoneWrong : ChangeSpec := { name := "masterNone", fn := fun _ => fun
  | [d1, d2] => { results := [.lit (.bool false)], args := [d1, d2] }
  | _ => none }
def MasterNoneWrongFalsely : Prop := masterNoneRow.holds Try.pinned (OpenSpec.ofChange masterNoneWrong)

/-- 'varvelaw19.MasterLoads': WHATEVER THE INPUT: true; the input reads as it did. -/
def masterLoadsSpec : ChangeSpec := { name := "masterLoads", fn := fun _ => fun
  | [d1, d2, d3] => { results := [.lit (.bool true)], args := [d1, d2, d3] }
  | _ => none }
def masterLoadsRow : OpenClaim := { program := "ytmnmbpcbfmhceaa", sum := "db664335726d1caef4bbc73a9dc3186ebc17cc94f0e524f6da2ece8be99810eb", func := "varve/varvelaw19.MasterLoads", spec := "masterLoads", unfollowed := true, recurses := true, plainKeys := false, apart := false }
def MasterLoadsSaid : Prop := masterLoadsRow.holds Try.pinned (OpenSpec.ofChange masterLoadsSpec)

/-- ITS FALSE NEIGHBOUR: 'it returns false'. Refute it at one input. -/
def masterLoadsWrong : ChangeSpec := { name := "masterLoads", fn := fun _ => fun
  | [d1, d2, d3] => { results := [.lit (.bool false)], args := [d1, d2, d3] }
  | _ => none }
def MasterLoadsWrongFalsely : Prop := masterLoadsRow.holds Try.pinned (OpenSpec.ofChange masterLoadsWrong)

/-- 'varvelaw19.MasterCrash': WHATEVER THE INPUT: true; the input reads as it did. -/
def masterCrashSpec : ChangeSpec := { name := "masterCrash", fn := fun _ => fun
  | [d1, d2, d3, d4, d5] => { results := [.lit (.bool true)], args := [d1, d2, d3, d4, d5] }
  | _ => none }
def masterCrashRow : OpenClaim := { program := "ytmnmbpcbfmhceaa", sum := "db664335726d1caef4bbc73a9dc3186ebc17cc94f0e524f6da2ece8be99810eb", func := "varve/varvelaw19.MasterCrash", spec := "masterCrash", unfollowed := true, recurses := true, plainKeys := false, apart := false }
def MasterCrashSaid : Prop := masterCrashRow.holds Try.pinned (OpenSpec.ofChange masterCrashSpec)

/-- ITS FALSE NEIGHBOUR: 'it returns false'. Refute it at one input. -/
def masterCrashWrong : ChangeSpec := { name := "masterCrash", fn := fun _ => fun
  | [d1, d2, d3, d4, d5] => { results := [.lit (.bool false)], args := [d1, d2, d3, d4, d5] }
  | _ => none }
def MasterCrashWrongFalsely : Prop := masterCrashRow.holds Try.pinned (OpenSpec.ofChange masterCrashWrong)

/-- 'varvelaw11.LogScans': WHATEVER THE INPUT: true; the input reads as it did. -/
def logScansSpec : ChangeSpec := { name := "logScans", fn := fun _ => fun
  | [d1, d2, d3, d4, d5] => { results := [.lit (.bool true)], args := [d1, d2, d3, d4, d5] }
  | _ => none }
def logScansRow : OpenClaim := { program := "ytmnmbpcbfmhceaa", sum := "db664335726d1caef4bbc73a9dc3186ebc17cc94f0e524f6da2ece8be99810eb", func := "varve/varvelaw11.LogScans", spec := "logScans", plainKeys := false, apart := false }
def LogScansSaid : Prop := logScansRow.holds Try.pinned (OpenSpec.ofChange logScansSpec)

/-- ITS FALSE NEIGHBOUR: 'it returns false'. Refute it at one input. -/
def logScansWrong : ChangeSpec := { name := "logScans", fn := fun _ => fun
  | [d1, d2, d3, d4, d5] => { results := [.lit (.bool false)], args := [d1, d2, d3, d4, d5] }
  | _ => none }
def LogScansWrongFalsely : Prop := logScansRow.holds Try.pinned (OpenSpec.ofChange logScansWrong)

/-- 'varvelaw09.ApplyRedo': WHATEVER THE INPUT: true; the input reads as it did. -/
def applyRedoSpec : ChangeSpec := { name := "applyRedo", fn := fun _ => fun
  | [d1, d2, d3] => { results := [.lit (.bool true)], args := [d1, d2, d3] }
  | _ => none }
def applyRedoRow : OpenClaim := { program := "ytmnmbpcbfmhceaa", sum := "db664335726d1caef4bbc73a9dc3186ebc17cc94f0e524f6da2ece8be99810eb", func := "varve/varvelaw09.ApplyRedo", spec := "applyRedo", unfollowed := true, recurses := true, plainKeys := false, apart := false }
def ApplyRedoSaid : Prop := applyRedoRow.holds Try.pinned (OpenSpec.ofChange applyRedoSpec)

/-- ITS FALSE NEIGHBOUR: 'it returns false'. Refute it at one input. -/
def applyRedoWrong : ChangeSpec := { name := "applyRedo", fn := fun _ => fun
  | [d1, d2, d3] => { results := [.lit (.bool false)], args := [d1, d2, d3] }
  | _ => none }
def ApplyRedoWrongFalsely : Prop := applyRedoRow.holds Try.pinned (OpenSpec.ofChange applyRedoWrong)

/-- 'varvelaw11.LogNone': WHATEVER THE INPUT: true; the input reads as it did. -/
def logNoneSpec : ChangeSpec := { name := "logNone", fn := fun _ => fun
  | [d1, d2, d3, d4] => { results := [.lit (.bool true)], args := [d1, d2, d3, d4] }
  | _ => none }
def logNoneRow : OpenClaim := { program := "ytmnmbpcbfmhceaa", sum := "db664335726d1caef4bbc73a9dc3186ebc17cc94f0e524f6da2ece8be99810eb", func := "varve/varvelaw11.LogNone", spec := "logNone", plainKeys := false, apart := false }
def LogNoneSaid : Prop := logNoneRow.holds Try.pinned (OpenSpec.ofChange logNoneSpec)

/-- ITS FALSE NEIGHBOUR: 'it returns false'. Refute it at one input. -/
def logNoneWrong : ChangeSpec := { name := "logNone", fn := fun _ => fun
  | [d1, d2, d3, d4] => { results := [.lit (.bool false)], args := [d1, d2, d3, d4] }
  | _ => none }
def LogNoneWrongFalsely : Prop := logNoneRow.holds Try.pinned (OpenSpec.ofChange logNoneWrong)

/-- 'varvelaw09.ApplyReplay': WHATEVER THE INPUT: true; the input reads as it did. -/
def applyReplaySpec : ChangeSpec := { name := "applyReplay", fn := fun _ => fun
  | [d1, d2, d3] => { results := [.lit (.bool true)], args := [d1, d2, d3] }
  | _ => none }
def applyReplayRow : OpenClaim := { program := "ytmnmbpcbfmhceaa", sum := "db664335726d1caef4bbc73a9dc3186ebc17cc94f0e524f6da2ece8be99810eb", func := "varve/varvelaw09.ApplyReplay", spec := "applyReplay", unfollowed := true, recurses := true, plainKeys := false, apart := false }
def ApplyReplaySaid : Prop := applyReplayRow.holds Try.pinned (OpenSpec.ofChange applyReplaySpec)

/-- ITS FALSE NEIGHBOUR: 'it returns false'. Refute it at one input. -/
def applyReplayWrong : ChangeSpec := { name := "applyReplay", fn := fun _ => fun
  | [d1, d2, d3] => { results := [.lit (.bool false)], args := [d1, d2, d3] }
  | _ => none }
def ApplyReplayWrongFalsely : Prop := applyReplayRow.holds Try.pinned (OpenSpec.ofChange applyReplayWrong)

/-- 'varvelaw09.ApplyTwice': WHATEVER THE INPUT: true; the input reads as it did. -/
def applyTwiceSpec : ChangeSpec := { name := "applyTwice", fn := fun _ => fun
  | [d1, d2, d3, d4] => { results := [.lit (.bool true)], args := [d1, d2, d3, d4] }
  | _ => none }
def applyTwiceRow : OpenClaim := { program := "ytmnmbpcbfmhceaa", sum := "db664335726d1caef4bbc73a9dc3186ebc17cc94f0e524f6da2ece8be99810eb", func := "varve/varvelaw09.ApplyTwice", spec := "applyTwice", unfollowed := true, recurses := true, plainKeys := false, apart := false }
def ApplyTwiceSaid : Prop := applyTwiceRow.holds Try.pinned (OpenSpec.ofChange applyTwiceSpec)

/-- ITS FALSE NEIGHBOUR: 'it returns false'. Refute it at one input. -/
def applyTwiceWrong : ChangeSpec := { name := "applyTwice", fn := fun _ => fun
  | [d1, d2, d3, d4] => { results := [.lit (.bool false)], args := [d1, d2, d3, d4] }
  | _ => none }
def ApplyTwiceWrongFalsely : Prop := applyTwiceRow.holds Try.pinned (OpenSpec.ofChange applyTwiceWrong)

/- THE SECOND FORM. 'bulk': how many values and letters a reading holds, each counted each time it is reached (what is shared counts as often as it is met; a slice's spare places count too). A statement '..UptoSaid' is the law's where the arguments, and the package variables that the reading takes, are together of bulk at most 1048576: NARROWER than '..Said'. Prove '..Said' where nothing that the law and all that it calls make is longer than what came in: it says more and counts as full. Else prove '..UptoSaid'. A law counts once. -/
mutual
def uptoBulk {H : Type} : DataW H → Nat
  | .lit (.string bytes) => bytes.length + 1
  | .lit _ => 1
  | .nil => 1
  | .ptr d => uptoBulk d + 1
  | .slice elems spare => uptoBulkAll elems + uptoBulkAll spare + 1
  | .agg parts => uptoBulkAll parts + 1
  | .iface _ d => uptoBulk d + 1
  | .map entries => uptoBulkEntries entries + 1
  | .held _ => 1
def uptoBulkAll {H : Type} : List (DataW H) → Nat
  | [] => 0
  | d :: r => uptoBulk d + uptoBulkAll r
def uptoBulkEntries {H : Type} : List (Lit × DataW H) → Nat
  | [] => 0
  | x :: r => uptoBulkEntry x + uptoBulkEntries r
def uptoBulkEntry {H : Type} : Lit × DataW H → Nat
  | (.string bytes, d) => bytes.length + uptoBulk d + 1
  | (_, d) => uptoBulk d + 1
 end
def uptoSmall : (H : Type) → List (DataW H) → Bool := fun _ ds => decide (uptoBulkAll ds ≤ 1048576)
def OpenSpec.upto (s : _root_.Go.ChangeSpec) : _root_.Go.OpenSpec := { _root_.Go.OpenSpec.ofChange s with cond := some uptoSmall }

/-- 'varvelaw10.RingWhole', WHERE WHAT IT READS IS OF BULK AT MOST 1048576: true; the input reads as it did. -/
def ringWholeUptoRow : OpenClaim := { program := "ytmnmbpcbfmhceaa", sum := "db664335726d1caef4bbc73a9dc3186ebc17cc94f0e524f6da2ece8be99810eb", func := "varve/varvelaw10.RingWhole", spec := "ringWhole", unfollowed := true, recurses := true, plainKeys := false, apart := false, narrowed := true }
def RingWholeUptoSaid : Prop := ringWholeUptoRow.holds Try.pinned (OpenSpec.upto ringWholeSpec)

/-- 'varvelaw05.DiskLasts', WHERE WHAT IT READS IS OF BULK AT MOST 1048576: true; the input reads as it did. -/
def diskLastsUptoRow : OpenClaim := { program := "ytmnmbpcbfmhceaa", sum := "db664335726d1caef4bbc73a9dc3186ebc17cc94f0e524f6da2ece8be99810eb", func := "varve/varvelaw05.DiskLasts", spec := "diskLasts", plainKeys := false, apart := false, narrowed := true }
def DiskLastsUptoSaid : Prop := diskLastsUptoRow.holds Try.pinned (OpenSpec.upto diskLastsSpec)

/-- 'varvelaw05.DiskFuse', WHERE WHAT IT READS IS OF BULK AT MOST 1048576: true; the input reads as it did. -/
def diskFuseUptoRow : OpenClaim := { program := "ytmnmbpcbfmhceaa", sum := "db664335726d1caef4bbc73a9dc3186ebc17cc94f0e524f6da2ece8be99810eb", func := "varve/varvelaw05.DiskFuse", spec := "diskFuse", plainKeys := false, apart := false, narrowed := true }
def DiskFuseUptoSaid : Prop := diskFuseUptoRow.holds Try.pinned (OpenSpec.upto diskFuseSpec)

/-- 'varvelaw05.DiskKept', WHERE WHAT IT READS IS OF BULK AT MOST 1048576: true; the input reads as it did. -/
def diskKeptUptoRow : OpenClaim := { program := "ytmnmbpcbfmhceaa", sum := "db664335726d1caef4bbc73a9dc3186ebc17cc94f0e524f6da2ece8be99810eb", func := "varve/varvelaw05.DiskKept", spec := "diskKept", plainKeys := false, apart := false, narrowed := true }
def DiskKeptUptoSaid : Prop := diskKeptUptoRow.holds Try.pinned (OpenSpec.upto diskKeptSpec)

/-- 'varvelaw05.DiskPlays', WHERE WHAT IT READS IS OF BULK AT MOST 1048576: true; the input reads as it did. -/
def diskPlaysUptoRow : OpenClaim := { program := "ytmnmbpcbfmhceaa", sum := "db664335726d1caef4bbc73a9dc3186ebc17cc94f0e524f6da2ece8be99810eb", func := "varve/varvelaw05.DiskPlays", spec := "diskPlays", plainKeys := false, apart := false, narrowed := true }
def DiskPlaysUptoSaid : Prop := diskPlaysUptoRow.holds Try.pinned (OpenSpec.upto diskPlaysSpec)

/-- 'varvelaw05.DiskFails', WHERE WHAT IT READS IS OF BULK AT MOST 1048576: true; the input reads as it did. -/
def diskFailsUptoRow : OpenClaim := { program := "ytmnmbpcbfmhceaa", sum := "db664335726d1caef4bbc73a9dc3186ebc17cc94f0e524f6da2ece8be99810eb", func := "varve/varvelaw05.DiskFails", spec := "diskFails", plainKeys := false, apart := false, narrowed := true }
def DiskFailsUptoSaid : Prop := diskFailsUptoRow.holds Try.pinned (OpenSpec.upto diskFailsSpec)

/-- 'varvelaw05.DiskNone', WHERE WHAT IT READS IS OF BULK AT MOST 1048576: true; the input reads as it did. -/
def diskNoneUptoRow : OpenClaim := { program := "ytmnmbpcbfmhceaa", sum := "db664335726d1caef4bbc73a9dc3186ebc17cc94f0e524f6da2ece8be99810eb", func := "varve/varvelaw05.DiskNone", spec := "diskNone", plainKeys := false, apart := false, narrowed := true }
def DiskNoneUptoSaid : Prop := diskNoneUptoRow.holds Try.pinned (OpenSpec.upto diskNoneSpec)

/-- 'varvelaw06.PageData', WHERE WHAT IT READS IS OF BULK AT MOST 1048576: true; the input reads as it did. -/
def pageDataUptoRow : OpenClaim := { program := "ytmnmbpcbfmhceaa", sum := "db664335726d1caef4bbc73a9dc3186ebc17cc94f0e524f6da2ece8be99810eb", func := "varve/varvelaw06.PageData", spec := "pageData", plainKeys := false, apart := false, narrowed := true }
def PageDataUptoSaid : Prop := pageDataUptoRow.holds Try.pinned (OpenSpec.upto pageDataSpec)

/-- 'varvelaw06.PageUndos', WHERE WHAT IT READS IS OF BULK AT MOST 1048576: true; the input reads as it did. -/
def pageUndosUptoRow : OpenClaim := { program := "ytmnmbpcbfmhceaa", sum := "db664335726d1caef4bbc73a9dc3186ebc17cc94f0e524f6da2ece8be99810eb", func := "varve/varvelaw06.PageUndos", spec := "pageUndos", plainKeys := false, apart := false, narrowed := true }
def PageUndosUptoSaid : Prop := pageUndosUptoRow.holds Try.pinned (OpenSpec.upto pageUndosSpec)

/-- 'varvelaw06.PageKinds', WHERE WHAT IT READS IS OF BULK AT MOST 1048576: true; the input reads as it did. -/
def pageKindsUptoRow : OpenClaim := { program := "ytmnmbpcbfmhceaa", sum := "db664335726d1caef4bbc73a9dc3186ebc17cc94f0e524f6da2ece8be99810eb", func := "varve/varvelaw06.PageKinds", spec := "pageKinds", plainKeys := false, apart := false, narrowed := true }
def PageKindsUptoSaid : Prop := pageKindsUptoRow.holds Try.pinned (OpenSpec.upto pageKindsSpec)

/-- 'varvelaw06.PageBack', WHERE WHAT IT READS IS OF BULK AT MOST 1048576: true; the input reads as it did. -/
def pageBackUptoRow : OpenClaim := { program := "ytmnmbpcbfmhceaa", sum := "db664335726d1caef4bbc73a9dc3186ebc17cc94f0e524f6da2ece8be99810eb", func := "varve/varvelaw06.PageBack", spec := "pageBack", plainKeys := false, apart := false, narrowed := true }
def PageBackUptoSaid : Prop := pageBackUptoRow.holds Try.pinned (OpenSpec.upto pageBackSpec)

/-- 'varvelaw06.PageTurned', WHERE WHAT IT READS IS OF BULK AT MOST 1048576: true; the input reads as it did. -/
def pageTurnedUptoRow : OpenClaim := { program := "ytmnmbpcbfmhceaa", sum := "db664335726d1caef4bbc73a9dc3186ebc17cc94f0e524f6da2ece8be99810eb", func := "varve/varvelaw06.PageTurned", spec := "pageTurned", plainKeys := false, apart := false, narrowed := true }
def PageTurnedUptoSaid : Prop := pageTurnedUptoRow.holds Try.pinned (OpenSpec.upto pageTurnedSpec)

/-- 'varvelaw06.PageUnlike', WHERE WHAT IT READS IS OF BULK AT MOST 1048576: true; the input reads as it did. -/
def pageUnlikeUptoRow : OpenClaim := { program := "ytmnmbpcbfmhceaa", sum := "db664335726d1caef4bbc73a9dc3186ebc17cc94f0e524f6da2ece8be99810eb", func := "varve/varvelaw06.PageUnlike", spec := "pageUnlike", plainKeys := false, apart := false, narrowed := true }
def PageUnlikeUptoSaid : Prop := pageUnlikeUptoRow.holds Try.pinned (OpenSpec.upto pageUnlikeSpec)

/-- 'varvelaw19.MasterPacks', WHERE WHAT IT READS IS OF BULK AT MOST 1048576: true; the input reads as it did. -/
def masterPacksUptoRow : OpenClaim := { program := "ytmnmbpcbfmhceaa", sum := "db664335726d1caef4bbc73a9dc3186ebc17cc94f0e524f6da2ece8be99810eb", func := "varve/varvelaw19.MasterPacks", spec := "masterPacks", unfollowed := true, recurses := true, plainKeys := false, apart := false, narrowed := true }
def MasterPacksUptoSaid : Prop := masterPacksUptoRow.holds Try.pinned (OpenSpec.upto masterPacksSpec)

/-- 'varvelaw19.MasterBack', WHERE WHAT IT READS IS OF BULK AT MOST 1048576: true; the input reads as it did. -/
def masterBackUptoRow : OpenClaim := { program := "ytmnmbpcbfmhceaa", sum := "db664335726d1caef4bbc73a9dc3186ebc17cc94f0e524f6da2ece8be99810eb", func := "varve/varvelaw19.MasterBack", spec := "masterBack", unfollowed := true, recurses := true, plainKeys := false, apart := false, narrowed := true }
def MasterBackUptoSaid : Prop := masterBackUptoRow.holds Try.pinned (OpenSpec.upto masterBackSpec)

/-- 'varvelaw19.MasterNone', WHERE WHAT IT READS IS OF BULK AT MOST 1048576: true; the input reads as it did. -/
def masterNoneUptoRow : OpenClaim := { program := "ytmnmbpcbfmhceaa", sum := "db664335726d1caef4bbc73a9dc3186ebc17cc94f0e524f6da2ece8be99810eb", func := "varve/varvelaw19.MasterNone", spec := "masterNone", unfollowed := true, recurses := true, plainKeys := false, apart := false, narrowed := true }
def MasterNoneUptoSaid : Prop := masterNoneUptoRow.holds Try.pinned (OpenSpec.upto masterNoneSpec)

/-- 'varvelaw19.MasterLoads', WHERE WHAT IT READS IS OF BULK AT MOST 1048576: true; the input reads as it did. -/
def masterLoadsUptoRow : OpenClaim := { program := "ytmnmbpcbfmhceaa", sum := "db664335726d1caef4bbc73a9dc3186ebc17cc94f0e524f6da2ece8be99810eb", func := "varve/varvelaw19.MasterLoads", spec := "masterLoads", unfollowed := true, recurses := true, plainKeys := false, apart := false, narrowed := true }
def MasterLoadsUptoSaid : Prop := masterLoadsUptoRow.holds Try.pinned (OpenSpec.upto masterLoadsSpec)

/-- 'varvelaw19.MasterCrash', WHERE WHAT IT READS IS OF BULK AT MOST 1048576: true; the input reads as it did. -/
def masterCrashUptoRow : OpenClaim := { program := "ytmnmbpcbfmhceaa", sum := "db664335726d1caef4bbc73a9dc3186ebc17cc94f0e524f6da2ece8be99810eb", func := "varve/varvelaw19.MasterCrash", spec := "masterCrash", unfollowed := true, recurses := true, plainKeys := false, apart := false, narrowed := true }
def MasterCrashUptoSaid : Prop := masterCrashUptoRow.holds Try.pinned (OpenSpec.upto masterCrashSpec)

/-- 'varvelaw11.LogScans', WHERE WHAT IT READS IS OF BULK AT MOST 1048576: true; the input reads as it did. -/
def logScansUptoRow : OpenClaim := { program := "ytmnmbpcbfmhceaa", sum := "db664335726d1caef4bbc73a9dc3186ebc17cc94f0e524f6da2ece8be99810eb", func := "varve/varvelaw11.LogScans", spec := "logScans", plainKeys := false, apart := false, narrowed := true }
def LogScansUptoSaid : Prop := logScansUptoRow.holds Try.pinned (OpenSpec.upto logScansSpec)

/-- 'varvelaw09.ApplyRedo', WHERE WHAT IT READS IS OF BULK AT MOST 1048576: true; the input reads as it did. -/
def applyRedoUptoRow : OpenClaim := { program := "ytmnmbpcbfmhceaa", sum := "db664335726d1caef4bbc73a9dc3186ebc17cc94f0e524f6da2ece8be99810eb", func := "varve/varvelaw09.ApplyRedo", spec := "applyRedo", unfollowed := true, recurses := true, plainKeys := false, apart := false, narrowed := true }
def ApplyRedoUptoSaid : Prop := applyRedoUptoRow.holds Try.pinned (OpenSpec.upto applyRedoSpec)

/-- 'varvelaw11.LogNone', WHERE WHAT IT READS IS OF BULK AT MOST 1048576: true; the input reads as it did. -/
def logNoneUptoRow : OpenClaim := { program := "ytmnmbpcbfmhceaa", sum := "db664335726d1caef4bbc73a9dc3186ebc17cc94f0e524f6da2ece8be99810eb", func := "varve/varvelaw11.LogNone", spec := "logNone", plainKeys := false, apart := false, narrowed := true }
def LogNoneUptoSaid : Prop := logNoneUptoRow.holds Try.pinned (OpenSpec.upto logNoneSpec)

/-- 'varvelaw09.ApplyReplay', WHERE WHAT IT READS IS OF BULK AT MOST 1048576: true; the input reads as it did. -/
def applyReplayUptoRow : OpenClaim := { program := "ytmnmbpcbfmhceaa", sum := "db664335726d1caef4bbc73a9dc3186ebc17cc94f0e524f6da2ece8be99810eb", func := "varve/varvelaw09.ApplyReplay", spec := "applyReplay", unfollowed := true, recurses := true, plainKeys := false, apart := false, narrowed := true }
def ApplyReplayUptoSaid : Prop := applyReplayUptoRow.holds Try.pinned (OpenSpec.upto applyReplaySpec)

/-- 'varvelaw09.ApplyTwice', WHERE WHAT IT READS IS OF BULK AT MOST 1048576: true; the input reads as it did. -/
def applyTwiceUptoRow : OpenClaim := { program := "ytmnmbpcbfmhceaa", sum := "db664335726d1caef4bbc73a9dc3186ebc17cc94f0e524f6da2ece8be99810eb", func := "varve/varvelaw09.ApplyTwice", spec := "applyTwice", unfollowed := true, recurses := true, plainKeys := false, apart := false, narrowed := true }
def ApplyTwiceUptoSaid : Prop := applyTwiceUptoRow.holds Try.pinned (OpenSpec.upto applyTwiceSpec)

end Rows
end Go.Proofs.Ytmnmbpcbfmhceaa
