/-
  NARROWER THAN 'FOR EVERY INPUT', by the rows' own cells (each row's printed sentence says how): FramerHolds: laid · FramerStops: laid · FramerNews: laid · FramerMost: laid · DecodeBack: laid · DecodeAgain: laid · DecodeCuts: laid · GuardCuts: laid · GuardTraces: laid · GuardReceives: laid · GuardNews: laid · AuditScripts: laid.
  DERIVED. THE GIVEN ROWS OF THIS SEAT. 12 by the template 'for every input the law returns true; each argument reads behind the call as it read before'; 0 by the template 'total and deterministic' (their statements: YtaiakjkdplhooaaGreatDoorTotals.lean).
  GIVEN WITH THE SEED: the statements are not yours to turn. If you find one false, say at which input.
  Laid BY PROGRAM, IN A SANDBOX (cutbox-rows.mjs): the forced cells as the released guide's own fill.sh prints them over the translation c723ba78c7340ebf… (all of the seat's roots in one cut). By AI agents, Wed Nov 11 2026. No macro, syntax, notation, axiom, sorry.
-/
import Derived.Test.YtaiakjkdplhooaaGreatDoorChecked
import GoSem.PinnedTables
import GoSem.Claim
import GoSem.ClaimJoined
import GoSem.ClaimMapViews
import Derived.JoinedTies
import Derived.KernelRfl
namespace Go.Proofs.YtaiakjkdplhooaaGreatDoor
/- THE CELL 'sum', in the pinned program and in every row, IS THE sha256 OF THE DUMP (.gsa) THAT YtaiakjkdplhooaaGreatDoorProg.lean LOADS. Nothing in Lean hashes anything: it is a label: what it is worth is what the hold of that sum in a sandbox is worth. -/
noncomputable def Tryz.pinned : Pinned := { name := "ytaiakjkdplhooaagreatdoor", sum := "c723ba78c7340ebf7124b4204f1f0562394bc5f81574b37c4a4bb4d1dbab50bb", checked := Tryz.checked }
namespace Rows
def none {H : Type} : Left H := { results := [], args := [] }

/- WHAT THE LISTED PACKAGE-LEVEL VARIABLES READ AS WHEN THE CALL BEGINS. Each datum BY PROGRAM (the guide's laid-datum.mjs) off the statement by which the dump's own 'gosem.cut.vars' lays the variable. In a bare row this is a premise. The card (YtaiakjkdplhooaaGreatDoorCards.lean) ties it to the program's text. -/
def laid_unicode_utf8_acceptRanges {H : Type} : DataW H := .agg [.agg [.lit (.int .u8 128), .lit (.int .u8 191)], .agg [.lit (.int .u8 160), .lit (.int .u8 191)], .agg [.lit (.int .u8 128), .lit (.int .u8 159)], .agg [.lit (.int .u8 144), .lit (.int .u8 191)], .agg [.lit (.int .u8 128), .lit (.int .u8 143)], .agg [.lit (.int .u8 0), .lit (.int .u8 0)], .agg [.lit (.int .u8 0), .lit (.int .u8 0)], .agg [.lit (.int .u8 0), .lit (.int .u8 0)], .agg [.lit (.int .u8 0), .lit (.int .u8 0)], .agg [.lit (.int .u8 0), .lit (.int .u8 0)], .agg [.lit (.int .u8 0), .lit (.int .u8 0)], .agg [.lit (.int .u8 0), .lit (.int .u8 0)], .agg [.lit (.int .u8 0), .lit (.int .u8 0)], .agg [.lit (.int .u8 0), .lit (.int .u8 0)], .agg [.lit (.int .u8 0), .lit (.int .u8 0)], .agg [.lit (.int .u8 0), .lit (.int .u8 0)]]
/-- One of Go's own tables, pinned by name: the form's constant. -/
def laid_unicode_utf8_first : DataW Unit := Go.Pinned.utf8First

/-- 'pouchlaw10.FramerHolds': WHATEVER THE INPUT: true; the input reads as it did. -/
def framerHoldsSpec : ChangeSpec := { name := "framerHolds", fn := fun _ => fun
  | [d1, d2, d3] => { results := [.lit (.bool true)], args := [d1, d2, d3] }
  | _ => none }
def framerHoldsRow : OpenClaim := { program := "ytaiakjkdplhooaagreatdoor", sum := "c723ba78c7340ebf7124b4204f1f0562394bc5f81574b37c4a4bb4d1dbab50bb", func := "pouch/pouchlaw10.FramerHolds", spec := "framerHolds", inPlace := ["internal/bytealg.IndexByteString", "internal/bytealg.IndexString", "internal/bytealg.CountString"], unfollowed := true, recurses := true, named := ["unicode/utf8.first", "unicode/utf8.acceptRanges", "internal/bytealg.MaxLen"], apart := false, laid := [("unicode/utf8.acceptRanges", laid_unicode_utf8_acceptRanges), ("unicode/utf8.first", laid_unicode_utf8_first)] }
def FramerHoldsSaid : Prop := framerHoldsRow.holds Tryz.pinned (OpenSpec.ofChange framerHoldsSpec)

/-- ITS FALSE NEIGHBOUR: 'it returns false'. Refute it at one input. -/
def framerHoldsWrong : ChangeSpec := { name := "framerHolds", fn := fun _ => fun
  | [d1, d2, d3] => { results := [.lit (.bool false)], args := [d1, d2, d3] }
  | _ => none }
def FramerHoldsWrongFalsely : Prop := framerHoldsRow.holds Tryz.pinned (OpenSpec.ofChange framerHoldsWrong)

/-- 'pouchlaw10.FramerStops': WHATEVER THE INPUT: true; the input reads as it did. -/
def framerStopsSpec : ChangeSpec := { name := "framerStops", fn := fun _ => fun
  | [d1, d2, d3] => { results := [.lit (.bool true)], args := [d1, d2, d3] }
  | _ => none }
def framerStopsRow : OpenClaim := { program := "ytaiakjkdplhooaagreatdoor", sum := "c723ba78c7340ebf7124b4204f1f0562394bc5f81574b37c4a4bb4d1dbab50bb", func := "pouch/pouchlaw10.FramerStops", spec := "framerStops", inPlace := ["internal/bytealg.IndexByteString", "internal/bytealg.IndexString", "internal/bytealg.CountString"], unfollowed := true, recurses := true, named := ["unicode/utf8.first", "unicode/utf8.acceptRanges", "internal/bytealg.MaxLen"], apart := false, laid := [("unicode/utf8.acceptRanges", laid_unicode_utf8_acceptRanges), ("unicode/utf8.first", laid_unicode_utf8_first)] }
def FramerStopsSaid : Prop := framerStopsRow.holds Tryz.pinned (OpenSpec.ofChange framerStopsSpec)

/-- ITS FALSE NEIGHBOUR: 'it returns false'. Refute it at one input. -/
def framerStopsWrong : ChangeSpec := { name := "framerStops", fn := fun _ => fun
  | [d1, d2, d3] => { results := [.lit (.bool false)], args := [d1, d2, d3] }
  | _ => none }
def FramerStopsWrongFalsely : Prop := framerStopsRow.holds Tryz.pinned (OpenSpec.ofChange framerStopsWrong)

/-- 'pouchlaw10.FramerNews': WHATEVER THE INPUT: true; the input reads as it did. -/
def framerNewsSpec : ChangeSpec := { name := "framerNews", fn := fun _ => fun
  | [d1, d2] => { results := [.lit (.bool true)], args := [d1, d2] }
  | _ => none }
def framerNewsRow : OpenClaim := { program := "ytaiakjkdplhooaagreatdoor", sum := "c723ba78c7340ebf7124b4204f1f0562394bc5f81574b37c4a4bb4d1dbab50bb", func := "pouch/pouchlaw10.FramerNews", spec := "framerNews", inPlace := ["internal/bytealg.IndexByteString", "internal/bytealg.IndexString", "internal/bytealg.CountString"], unfollowed := true, recurses := true, named := ["unicode/utf8.first", "unicode/utf8.acceptRanges", "internal/bytealg.MaxLen"], apart := false, laid := [("unicode/utf8.acceptRanges", laid_unicode_utf8_acceptRanges), ("unicode/utf8.first", laid_unicode_utf8_first)] }
def FramerNewsSaid : Prop := framerNewsRow.holds Tryz.pinned (OpenSpec.ofChange framerNewsSpec)

/-- ITS FALSE NEIGHBOUR: 'it returns false'. Refute it at one input. -/
def framerNewsWrong : ChangeSpec := { name := "framerNews", fn := fun _ => fun
  | [d1, d2] => { results := [.lit (.bool false)], args := [d1, d2] }
  | _ => none }
def FramerNewsWrongFalsely : Prop := framerNewsRow.holds Tryz.pinned (OpenSpec.ofChange framerNewsWrong)

/-- 'pouchlaw10.FramerMost': WHATEVER THE INPUT: true; the input reads as it did. -/
def framerMostSpec : ChangeSpec := { name := "framerMost", fn := fun _ => fun
  | [d1, d2, d3] => { results := [.lit (.bool true)], args := [d1, d2, d3] }
  | _ => none }
def framerMostRow : OpenClaim := { program := "ytaiakjkdplhooaagreatdoor", sum := "c723ba78c7340ebf7124b4204f1f0562394bc5f81574b37c4a4bb4d1dbab50bb", func := "pouch/pouchlaw10.FramerMost", spec := "framerMost", inPlace := ["internal/bytealg.IndexByteString", "internal/bytealg.IndexString", "internal/bytealg.CountString"], unfollowed := true, recurses := true, named := ["unicode/utf8.first", "unicode/utf8.acceptRanges", "internal/bytealg.MaxLen"], apart := false, laid := [("unicode/utf8.acceptRanges", laid_unicode_utf8_acceptRanges), ("unicode/utf8.first", laid_unicode_utf8_first)] }
def FramerMostSaid : Prop := framerMostRow.holds Tryz.pinned (OpenSpec.ofChange framerMostSpec)

/-- ITS FALSE NEIGHBOUR: 'it returns false'. Refute it at one input. -/
def framerMostWrong : ChangeSpec := { name := "framerMost", fn := fun _ => fun
  | [d1, d2, d3] => { results := [.lit (.bool false)], args := [d1, d2, d3] }
  | _ => none }
def FramerMostWrongFalsely : Prop := framerMostRow.holds Tryz.pinned (OpenSpec.ofChange framerMostWrong)

/-- 'pouchlaw09.DecodeBack': WHATEVER THE INPUT: true; the input reads as it did. -/
def decodeBackSpec : ChangeSpec := { name := "decodeBack", fn := fun _ => fun
  | [d1, d2] => { results := [.lit (.bool true)], args := [d1, d2] }
  | _ => none }
def decodeBackRow : OpenClaim := { program := "ytaiakjkdplhooaagreatdoor", sum := "c723ba78c7340ebf7124b4204f1f0562394bc5f81574b37c4a4bb4d1dbab50bb", func := "pouch/pouchlaw09.DecodeBack", spec := "decodeBack", inPlace := ["internal/bytealg.IndexByteString", "internal/bytealg.IndexString", "internal/bytealg.CountString"], unfollowed := true, recurses := true, named := ["unicode/utf8.first", "unicode/utf8.acceptRanges", "internal/bytealg.MaxLen"], apart := false, laid := [("unicode/utf8.acceptRanges", laid_unicode_utf8_acceptRanges), ("unicode/utf8.first", laid_unicode_utf8_first)] }
def DecodeBackSaid : Prop := decodeBackRow.holds Tryz.pinned (OpenSpec.ofChange decodeBackSpec)

/-- ITS FALSE NEIGHBOUR: 'it returns false'. Refute it at one input. -/
def decodeBackWrong : ChangeSpec := { name := "decodeBack", fn := fun _ => fun
  | [d1, d2] => { results := [.lit (.bool false)], args := [d1, d2] }
  | _ => none }
def DecodeBackWrongFalsely : Prop := decodeBackRow.holds Tryz.pinned (OpenSpec.ofChange decodeBackWrong)

/-- 'pouchlaw09.DecodeAgain': WHATEVER THE INPUT: true; the input reads as it did. -/
def decodeAgainSpec : ChangeSpec := { name := "decodeAgain", fn := fun _ => fun
  | [d1, d2] => { results := [.lit (.bool true)], args := [d1, d2] }
  | _ => none }
def decodeAgainRow : OpenClaim := { program := "ytaiakjkdplhooaagreatdoor", sum := "c723ba78c7340ebf7124b4204f1f0562394bc5f81574b37c4a4bb4d1dbab50bb", func := "pouch/pouchlaw09.DecodeAgain", spec := "decodeAgain", inPlace := ["internal/bytealg.IndexByteString", "internal/bytealg.IndexString", "internal/bytealg.CountString"], unfollowed := true, recurses := true, named := ["unicode/utf8.first", "unicode/utf8.acceptRanges", "internal/bytealg.MaxLen"], apart := false, laid := [("unicode/utf8.acceptRanges", laid_unicode_utf8_acceptRanges), ("unicode/utf8.first", laid_unicode_utf8_first)] }
def DecodeAgainSaid : Prop := decodeAgainRow.holds Tryz.pinned (OpenSpec.ofChange decodeAgainSpec)

/-- ITS FALSE NEIGHBOUR: 'it returns false'. Refute it at one input. -/
def decodeAgainWrong : ChangeSpec := { name := "decodeAgain", fn := fun _ => fun
  | [d1, d2] => { results := [.lit (.bool false)], args := [d1, d2] }
  | _ => none }
def DecodeAgainWrongFalsely : Prop := decodeAgainRow.holds Tryz.pinned (OpenSpec.ofChange decodeAgainWrong)

/-- 'pouchlaw09.DecodeCuts': WHATEVER THE INPUT: true; the input reads as it did. -/
def decodeCutsSpec : ChangeSpec := { name := "decodeCuts", fn := fun _ => fun
  | [d1, d2, d3] => { results := [.lit (.bool true)], args := [d1, d2, d3] }
  | _ => none }
def decodeCutsRow : OpenClaim := { program := "ytaiakjkdplhooaagreatdoor", sum := "c723ba78c7340ebf7124b4204f1f0562394bc5f81574b37c4a4bb4d1dbab50bb", func := "pouch/pouchlaw09.DecodeCuts", spec := "decodeCuts", inPlace := ["internal/bytealg.IndexByteString", "internal/bytealg.IndexString", "internal/bytealg.CountString"], unfollowed := true, recurses := true, named := ["unicode/utf8.first", "unicode/utf8.acceptRanges", "internal/bytealg.MaxLen"], apart := false, laid := [("unicode/utf8.acceptRanges", laid_unicode_utf8_acceptRanges), ("unicode/utf8.first", laid_unicode_utf8_first)] }
def DecodeCutsSaid : Prop := decodeCutsRow.holds Tryz.pinned (OpenSpec.ofChange decodeCutsSpec)

/-- ITS FALSE NEIGHBOUR: 'it returns false'. Refute it at one input. -/
def decodeCutsWrong : ChangeSpec := { name := "decodeCuts", fn := fun _ => fun
  | [d1, d2, d3] => { results := [.lit (.bool false)], args := [d1, d2, d3] }
  | _ => none }
def DecodeCutsWrongFalsely : Prop := decodeCutsRow.holds Tryz.pinned (OpenSpec.ofChange decodeCutsWrong)

/-- 'pouchlaw14.GuardCuts': WHATEVER THE INPUT: true; the input reads as it did. -/
def guardCutsSpec : ChangeSpec := { name := "guardCuts", fn := fun _ => fun
  | [d1, d2, d3] => { results := [.lit (.bool true)], args := [d1, d2, d3] }
  | _ => none }
def guardCutsRow : OpenClaim := { program := "ytaiakjkdplhooaagreatdoor", sum := "c723ba78c7340ebf7124b4204f1f0562394bc5f81574b37c4a4bb4d1dbab50bb", func := "pouch/pouchlaw14.GuardCuts", spec := "guardCuts", inPlace := ["internal/bytealg.IndexByteString", "internal/bytealg.IndexString", "internal/bytealg.CountString", "slices.overlaps[pouch/alias.Row]", "slices.overlaps[pouch/ids.Row]"], unfollowed := true, recurses := true, named := ["unicode/utf8.first", "unicode/utf8.acceptRanges", "internal/bytealg.MaxLen"], apart := false, laid := [("unicode/utf8.acceptRanges", laid_unicode_utf8_acceptRanges), ("unicode/utf8.first", laid_unicode_utf8_first)] }
def GuardCutsSaid : Prop := guardCutsRow.holds Tryz.pinned (OpenSpec.ofChange guardCutsSpec)

/-- ITS FALSE NEIGHBOUR: 'it returns false'. Refute it at one input. -/
def guardCutsWrong : ChangeSpec := { name := "guardCuts", fn := fun _ => fun
  | [d1, d2, d3] => { results := [.lit (.bool false)], args := [d1, d2, d3] }
  | _ => none }
def GuardCutsWrongFalsely : Prop := guardCutsRow.holds Tryz.pinned (OpenSpec.ofChange guardCutsWrong)

/-- 'pouchlaw14.GuardTraces': WHATEVER THE INPUT: true; the input reads as it did. -/
def guardTracesSpec : ChangeSpec := { name := "guardTraces", fn := fun _ => fun
  | [d1, d2, d3] => { results := [.lit (.bool true)], args := [d1, d2, d3] }
  | _ => none }
def guardTracesRow : OpenClaim := { program := "ytaiakjkdplhooaagreatdoor", sum := "c723ba78c7340ebf7124b4204f1f0562394bc5f81574b37c4a4bb4d1dbab50bb", func := "pouch/pouchlaw14.GuardTraces", spec := "guardTraces", inPlace := ["internal/bytealg.IndexByteString", "internal/bytealg.IndexString", "internal/bytealg.CountString", "slices.overlaps[pouch/alias.Row]", "slices.overlaps[pouch/ids.Row]"], unfollowed := true, recurses := true, named := ["unicode/utf8.first", "unicode/utf8.acceptRanges", "internal/bytealg.MaxLen"], apart := false, laid := [("unicode/utf8.acceptRanges", laid_unicode_utf8_acceptRanges), ("unicode/utf8.first", laid_unicode_utf8_first)] }
def GuardTracesSaid : Prop := guardTracesRow.holds Tryz.pinned (OpenSpec.ofChange guardTracesSpec)

/-- ITS FALSE NEIGHBOUR: 'it returns false'. Refute it at one input. -/
def guardTracesWrong : ChangeSpec := { name := "guardTraces", fn := fun _ => fun
  | [d1, d2, d3] => { results := [.lit (.bool false)], args := [d1, d2, d3] }
  | _ => none }
def GuardTracesWrongFalsely : Prop := guardTracesRow.holds Tryz.pinned (OpenSpec.ofChange guardTracesWrong)

/-- 'pouchlaw14.GuardReceives': WHATEVER THE INPUT: true; the input reads as it did. -/
def guardReceivesSpec : ChangeSpec := { name := "guardReceives", fn := fun _ => fun
  | [d1, d2, d3] => { results := [.lit (.bool true)], args := [d1, d2, d3] }
  | _ => none }
def guardReceivesRow : OpenClaim := { program := "ytaiakjkdplhooaagreatdoor", sum := "c723ba78c7340ebf7124b4204f1f0562394bc5f81574b37c4a4bb4d1dbab50bb", func := "pouch/pouchlaw14.GuardReceives", spec := "guardReceives", inPlace := ["internal/bytealg.IndexByteString", "internal/bytealg.IndexString", "internal/bytealg.CountString", "slices.overlaps[pouch/alias.Row]", "slices.overlaps[pouch/ids.Row]"], unfollowed := true, recurses := true, named := ["unicode/utf8.first", "unicode/utf8.acceptRanges", "internal/bytealg.MaxLen"], apart := false, laid := [("unicode/utf8.acceptRanges", laid_unicode_utf8_acceptRanges), ("unicode/utf8.first", laid_unicode_utf8_first)] }
def GuardReceivesSaid : Prop := guardReceivesRow.holds Tryz.pinned (OpenSpec.ofChange guardReceivesSpec)

/-- ITS FALSE NEIGHBOUR: 'it returns false'. Refute it at one input. -/
def guardReceivesWrong : ChangeSpec := { name := "guardReceives", fn := fun _ => fun
  | [d1, d2, d3] => { results := [.lit (.bool false)], args := [d1, d2, d3] }
  | _ => none }
def GuardReceivesWrongFalsely : Prop := guardReceivesRow.holds Tryz.pinned (OpenSpec.ofChange guardReceivesWrong)

/-- 'pouchlaw14.GuardNews': WHATEVER THE INPUT: true; the input reads as it did. -/
def guardNewsSpec : ChangeSpec := { name := "guardNews", fn := fun _ => fun
  | [d1, d2] => { results := [.lit (.bool true)], args := [d1, d2] }
  | _ => none }
def guardNewsRow : OpenClaim := { program := "ytaiakjkdplhooaagreatdoor", sum := "c723ba78c7340ebf7124b4204f1f0562394bc5f81574b37c4a4bb4d1dbab50bb", func := "pouch/pouchlaw14.GuardNews", spec := "guardNews", inPlace := ["internal/bytealg.IndexByteString", "internal/bytealg.IndexString", "internal/bytealg.CountString", "slices.overlaps[pouch/alias.Row]", "slices.overlaps[pouch/ids.Row]"], unfollowed := true, recurses := true, named := ["unicode/utf8.first", "unicode/utf8.acceptRanges", "internal/bytealg.MaxLen"], apart := false, laid := [("unicode/utf8.acceptRanges", laid_unicode_utf8_acceptRanges), ("unicode/utf8.first", laid_unicode_utf8_first)] }
def GuardNewsSaid : Prop := guardNewsRow.holds Tryz.pinned (OpenSpec.ofChange guardNewsSpec)

/-- ITS FALSE NEIGHBOUR: 'it returns false'. Refute it at one input. -/
def guardNewsWrong : ChangeSpec := { name := "guardNews", fn := fun _ => fun
  | [d1, d2] => { results := [.lit (.bool false)], args := [d1, d2] }
  | _ => none }
def GuardNewsWrongFalsely : Prop := guardNewsRow.holds Tryz.pinned (OpenSpec.ofChange guardNewsWrong)

/-- 'pouchlaw16.AuditScripts': WHATEVER THE INPUT: true; the input reads as it did. -/
def auditScriptsSpec : ChangeSpec := { name := "auditScripts", fn := fun _ => fun
  | [d] => { results := [.lit (.bool true)], args := [d] }
  | _ => none }
def auditScriptsRow : OpenClaim := { program := "ytaiakjkdplhooaagreatdoor", sum := "c723ba78c7340ebf7124b4204f1f0562394bc5f81574b37c4a4bb4d1dbab50bb", func := "pouch/pouchlaw16.AuditScripts", spec := "auditScripts", inPlace := ["internal/abi.NoEscape", "internal/bytealg.MakeNoZero", "internal/bytealg.IndexByteString", "internal/bytealg.IndexString", "internal/bytealg.CountString", "slices.overlaps[pouch/alias.Row]", "slices.overlaps[pouch/ids.Row]"], unfollowed := true, recurses := true, named := ["unicode/utf8.first", "unicode/utf8.acceptRanges", "internal/bytealg.MaxLen"], apart := false, laid := [("unicode/utf8.acceptRanges", laid_unicode_utf8_acceptRanges), ("unicode/utf8.first", laid_unicode_utf8_first)] }
def AuditScriptsSaid : Prop := auditScriptsRow.holds Tryz.pinned (OpenSpec.ofChange auditScriptsSpec)

/-- ITS FALSE NEIGHBOUR: 'it returns false'. Refute it at one input. -/
def auditScriptsWrong : ChangeSpec := { name := "auditScripts", fn := fun _ => fun
  | [d] => { results := [.lit (.bool false)], args := [d] }
  | _ => none }
def AuditScriptsWrongFalsely : Prop := auditScriptsRow.holds Tryz.pinned (OpenSpec.ofChange auditScriptsWrong)

/- THE SECOND FORM. 'bulk': how many values and letters a reading holds, each counted each time it is reached (what is shared counts as often as it is met; a slice's spare places count too). A statement '..UptoSaid' is the law's where the arguments, and the package variables that the reading takes, are together of bulk at most 1048576: NARROWER than '..Said'. Prove '..Said' where nothing that the law and all that it calls make is longer than what came in: it says more and counts as full. Else prove '..UptoSaid'. A law counts once. -/
mutual
def uptoBulk {H : Type} : DataW H → Nat
  | .lit (.string bytes) => bytes.length + 1
  | .lit _ => 1
  | .nil => 1
  | .ptr d => uptoBulk d + 1
  | .slice elems spare => uptoBulkAll elems + uptoBulkAll spare + 1
  | .agg parts => uptoBulkAll parts + 1
  | .iface _ d => uptoBulk d + 1
  | .map entries => uptoBulkEntries entries + 1
  | .held _ => 1
def uptoBulkAll {H : Type} : List (DataW H) → Nat
  | [] => 0
  | d :: r => uptoBulk d + uptoBulkAll r
def uptoBulkEntries {H : Type} : List (Lit × DataW H) → Nat
  | [] => 0
  | x :: r => uptoBulkEntry x + uptoBulkEntries r
def uptoBulkEntry {H : Type} : Lit × DataW H → Nat
  | (.string bytes, d) => bytes.length + uptoBulk d + 1
  | (_, d) => uptoBulk d + 1
 end
def uptoSmall : (H : Type) → List (DataW H) → Bool := fun _ ds => decide (uptoBulkAll ds ≤ 1048576)
def OpenSpec.upto (s : _root_.Go.ChangeSpec) : _root_.Go.OpenSpec := { _root_.Go.OpenSpec.ofChange s with cond := some uptoSmall }

/-- 'pouchlaw10.FramerHolds', WHERE WHAT IT READS IS OF BULK AT MOST 1048576: true; the input reads as it did. -/
def framerHoldsUptoRow : OpenClaim := { program := "ytaiakjkdplhooaagreatdoor", sum := "c723ba78c7340ebf7124b4204f1f0562394bc5f81574b37c4a4bb4d1dbab50bb", func := "pouch/pouchlaw10.FramerHolds", spec := "framerHolds", inPlace := ["internal/bytealg.IndexByteString", "internal/bytealg.IndexString", "internal/bytealg.CountString"], unfollowed := true, recurses := true, named := ["unicode/utf8.first", "unicode/utf8.acceptRanges", "internal/bytealg.MaxLen"], apart := false, laid := [("unicode/utf8.acceptRanges", laid_unicode_utf8_acceptRanges), ("unicode/utf8.first", laid_unicode_utf8_first)], narrowed := true }
def FramerHoldsUptoSaid : Prop := framerHoldsUptoRow.holds Tryz.pinned (OpenSpec.upto framerHoldsSpec)

/-- 'pouchlaw10.FramerStops', WHERE WHAT IT READS IS OF BULK AT MOST 1048576: true; the input reads as it did. -/
def framerStopsUptoRow : OpenClaim := { program := "ytaiakjkdplhooaagreatdoor", sum := "c723ba78c7340ebf7124b4204f1f0562394bc5f81574b37c4a4bb4d1dbab50bb", func := "pouch/pouchlaw10.FramerStops", spec := "framerStops", inPlace := ["internal/bytealg.IndexByteString", "internal/bytealg.IndexString", "internal/bytealg.CountString"], unfollowed := true, recurses := true, named := ["unicode/utf8.first", "unicode/utf8.acceptRanges", "internal/bytealg.MaxLen"], apart := false, laid := [("unicode/utf8.acceptRanges", laid_unicode_utf8_acceptRanges), ("unicode/utf8.first", laid_unicode_utf8_first)], narrowed := true }
def FramerStopsUptoSaid : Prop := framerStopsUptoRow.holds Tryz.pinned (OpenSpec.upto framerStopsSpec)

/-- 'pouchlaw10.FramerNews', WHERE WHAT IT READS IS OF BULK AT MOST 1048576: true; the input reads as it did. -/
def framerNewsUptoRow : OpenClaim := { program := "ytaiakjkdplhooaagreatdoor", sum := "c723ba78c7340ebf7124b4204f1f0562394bc5f81574b37c4a4bb4d1dbab50bb", func := "pouch/pouchlaw10.FramerNews", spec := "framerNews", inPlace := ["internal/bytealg.IndexByteString", "internal/bytealg.IndexString", "internal/bytealg.CountString"], unfollowed := true, recurses := true, named := ["unicode/utf8.first", "unicode/utf8.acceptRanges", "internal/bytealg.MaxLen"], apart := false, laid := [("unicode/utf8.acceptRanges", laid_unicode_utf8_acceptRanges), ("unicode/utf8.first", laid_unicode_utf8_first)], narrowed := true }
def FramerNewsUptoSaid : Prop := framerNewsUptoRow.holds Tryz.pinned (OpenSpec.upto framerNewsSpec)

/-- 'pouchlaw10.FramerMost', WHERE WHAT IT READS IS OF BULK AT MOST 1048576: true; the input reads as it did. -/
def framerMostUptoRow : OpenClaim := { program := "ytaiakjkdplhooaagreatdoor", sum := "c723ba78c7340ebf7124b4204f1f0562394bc5f81574b37c4a4bb4d1dbab50bb", func := "pouch/pouchlaw10.FramerMost", spec := "framerMost", inPlace := ["internal/bytealg.IndexByteString", "internal/bytealg.IndexString", "internal/bytealg.CountString"], unfollowed := true, recurses := true, named := ["unicode/utf8.first", "unicode/utf8.acceptRanges", "internal/bytealg.MaxLen"], apart := false, laid := [("unicode/utf8.acceptRanges", laid_unicode_utf8_acceptRanges), ("unicode/utf8.first", laid_unicode_utf8_first)], narrowed := true }
def FramerMostUptoSaid : Prop := framerMostUptoRow.holds Tryz.pinned (OpenSpec.upto framerMostSpec)

/-- 'pouchlaw09.DecodeBack', WHERE WHAT IT READS IS OF BULK AT MOST 1048576: true; the input reads as it did. -/
def decodeBackUptoRow : OpenClaim := { program := "ytaiakjkdplhooaagreatdoor", sum := "c723ba78c7340ebf7124b4204f1f0562394bc5f81574b37c4a4bb4d1dbab50bb", func := "pouch/pouchlaw09.DecodeBack", spec := "decodeBack", inPlace := ["internal/bytealg.IndexByteString", "internal/bytealg.IndexString", "internal/bytealg.CountString"], unfollowed := true, recurses := true, named := ["unicode/utf8.first", "unicode/utf8.acceptRanges", "internal/bytealg.MaxLen"], apart := false, laid := [("unicode/utf8.acceptRanges", laid_unicode_utf8_acceptRanges), ("unicode/utf8.first", laid_unicode_utf8_first)], narrowed := true }
def DecodeBackUptoSaid : Prop := decodeBackUptoRow.holds Tryz.pinned (OpenSpec.upto decodeBackSpec)

/-- 'pouchlaw09.DecodeAgain', WHERE WHAT IT READS IS OF BULK AT MOST 1048576: true; the input reads as it did. -/
def decodeAgainUptoRow : OpenClaim := { program := "ytaiakjkdplhooaagreatdoor", sum := "c723ba78c7340ebf7124b4204f1f0562394bc5f81574b37c4a4bb4d1dbab50bb", func := "pouch/pouchlaw09.DecodeAgain", spec := "decodeAgain", inPlace := ["internal/bytealg.IndexByteString", "internal/bytealg.IndexString", "internal/bytealg.CountString"], unfollowed := true, recurses := true, named := ["unicode/utf8.first", "unicode/utf8.acceptRanges", "internal/bytealg.MaxLen"], apart := false, laid := [("unicode/utf8.acceptRanges", laid_unicode_utf8_acceptRanges), ("unicode/utf8.first", laid_unicode_utf8_first)], narrowed := true }
def DecodeAgainUptoSaid : Prop := decodeAgainUptoRow.holds Tryz.pinned (OpenSpec.upto decodeAgainSpec)

/-- 'pouchlaw09.DecodeCuts', WHERE WHAT IT READS IS OF BULK AT MOST 1048576: true; the input reads as it did. -/
def decodeCutsUptoRow : OpenClaim := { program := "ytaiakjkdplhooaagreatdoor", sum := "c723ba78c7340ebf7124b4204f1f0562394bc5f81574b37c4a4bb4d1dbab50bb", func := "pouch/pouchlaw09.DecodeCuts", spec := "decodeCuts", inPlace := ["internal/bytealg.IndexByteString", "internal/bytealg.IndexString", "internal/bytealg.CountString"], unfollowed := true, recurses := true, named := ["unicode/utf8.first", "unicode/utf8.acceptRanges", "internal/bytealg.MaxLen"], apart := false, laid := [("unicode/utf8.acceptRanges", laid_unicode_utf8_acceptRanges), ("unicode/utf8.first", laid_unicode_utf8_first)], narrowed := true }
def DecodeCutsUptoSaid : Prop := decodeCutsUptoRow.holds Tryz.pinned (OpenSpec.upto decodeCutsSpec)

/-- 'pouchlaw14.GuardCuts', WHERE WHAT IT READS IS OF BULK AT MOST 1048576: true; the input reads as it did. -/
def guardCutsUptoRow : OpenClaim := { program := "ytaiakjkdplhooaagreatdoor", sum := "c723ba78c7340ebf7124b4204f1f0562394bc5f81574b37c4a4bb4d1dbab50bb", func := "pouch/pouchlaw14.GuardCuts", spec := "guardCuts", inPlace := ["internal/bytealg.IndexByteString", "internal/bytealg.IndexString", "internal/bytealg.CountString", "slices.overlaps[pouch/alias.Row]", "slices.overlaps[pouch/ids.Row]"], unfollowed := true, recurses := true, named := ["unicode/utf8.first", "unicode/utf8.acceptRanges", "internal/bytealg.MaxLen"], apart := false, laid := [("unicode/utf8.acceptRanges", laid_unicode_utf8_acceptRanges), ("unicode/utf8.first", laid_unicode_utf8_first)], narrowed := true }
def GuardCutsUptoSaid : Prop := guardCutsUptoRow.holds Tryz.pinned (OpenSpec.upto guardCutsSpec)

/-- 'pouchlaw14.GuardTraces', WHERE WHAT IT READS IS OF BULK AT MOST 1048576: true; the input reads as it did. -/
def guardTracesUptoRow : OpenClaim := { program := "ytaiakjkdplhooaagreatdoor", sum := "c723ba78c7340ebf7124b4204f1f0562394bc5f81574b37c4a4bb4d1dbab50bb", func := "pouch/pouchlaw14.GuardTraces", spec := "guardTraces", inPlace := ["internal/bytealg.IndexByteString", "internal/bytealg.IndexString", "internal/bytealg.CountString", "slices.overlaps[pouch/alias.Row]", "slices.overlaps[pouch/ids.Row]"], unfollowed := true, recurses := true, named := ["unicode/utf8.first", "unicode/utf8.acceptRanges", "internal/bytealg.MaxLen"], apart := false, laid := [("unicode/utf8.acceptRanges", laid_unicode_utf8_acceptRanges), ("unicode/utf8.first", laid_unicode_utf8_first)], narrowed := true }
def GuardTracesUptoSaid : Prop := guardTracesUptoRow.holds Tryz.pinned (OpenSpec.upto guardTracesSpec)

/-- 'pouchlaw14.GuardReceives', WHERE WHAT IT READS IS OF BULK AT MOST 1048576: true; the input reads as it did. -/
def guardReceivesUptoRow : OpenClaim := { program := "ytaiakjkdplhooaagreatdoor", sum := "c723ba78c7340ebf7124b4204f1f0562394bc5f81574b37c4a4bb4d1dbab50bb", func := "pouch/pouchlaw14.GuardReceives", spec := "guardReceives", inPlace := ["internal/bytealg.IndexByteString", "internal/bytealg.IndexString", "internal/bytealg.CountString", "slices.overlaps[pouch/alias.Row]", "slices.overlaps[pouch/ids.Row]"], unfollowed := true, recurses := true, named := ["unicode/utf8.first", "unicode/utf8.acceptRanges", "internal/bytealg.MaxLen"], apart := false, laid := [("unicode/utf8.acceptRanges", laid_unicode_utf8_acceptRanges), ("unicode/utf8.first", laid_unicode_utf8_first)], narrowed := true }
def GuardReceivesUptoSaid : Prop := guardReceivesUptoRow.holds Tryz.pinned (OpenSpec.upto guardReceivesSpec)

/-- 'pouchlaw14.GuardNews', WHERE WHAT IT READS IS OF BULK AT MOST 1048576: true; the input reads as it did. -/
def guardNewsUptoRow : OpenClaim := { program := "ytaiakjkdplhooaagreatdoor", sum := "c723ba78c7340ebf7124b4204f1f0562394bc5f81574b37c4a4bb4d1dbab50bb", func := "pouch/pouchlaw14.GuardNews", spec := "guardNews", inPlace := ["internal/bytealg.IndexByteString", "internal/bytealg.IndexString", "internal/bytealg.CountString", "slices.overlaps[pouch/alias.Row]", "slices.overlaps[pouch/ids.Row]"], unfollowed := true, recurses := true, named := ["unicode/utf8.first", "unicode/utf8.acceptRanges", "internal/bytealg.MaxLen"], apart := false, laid := [("unicode/utf8.acceptRanges", laid_unicode_utf8_acceptRanges), ("unicode/utf8.first", laid_unicode_utf8_first)], narrowed := true }
def GuardNewsUptoSaid : Prop := guardNewsUptoRow.holds Tryz.pinned (OpenSpec.upto guardNewsSpec)

/-- 'pouchlaw16.AuditScripts', WHERE WHAT IT READS IS OF BULK AT MOST 1048576: true; the input reads as it did. -/
def auditScriptsUptoRow : OpenClaim := { program := "ytaiakjkdplhooaagreatdoor", sum := "c723ba78c7340ebf7124b4204f1f0562394bc5f81574b37c4a4bb4d1dbab50bb", func := "pouch/pouchlaw16.AuditScripts", spec := "auditScripts", inPlace := ["internal/abi.NoEscape", "internal/bytealg.MakeNoZero", "internal/bytealg.IndexByteString", "internal/bytealg.IndexString", "internal/bytealg.CountString", "slices.overlaps[pouch/alias.Row]", "slices.overlaps[pouch/ids.Row]"], unfollowed := true, recurses := true, named := ["unicode/utf8.first", "unicode/utf8.acceptRanges", "internal/bytealg.MaxLen"], apart := false, laid := [("unicode/utf8.acceptRanges", laid_unicode_utf8_acceptRanges), ("unicode/utf8.first", laid_unicode_utf8_first)], narrowed := true }
def AuditScriptsUptoSaid : Prop := auditScriptsUptoRow.holds Tryz.pinned (OpenSpec.upto auditScriptsSpec)

end Rows
end Go.Proofs.YtaiakjkdplhooaaGreatDoor
