/-
  NARROWER THAN 'FOR EVERY INPUT', by the rows' own cells (each row's printed sentence says how): CabinetPlays: laid · CabinetNone: laid · CabinetRoom: laid · SegmentBytes: laid · SegmentLoads: laid · SegmentLasts: laid · SegmentList: laid.
  DERIVED. THE GIVEN ROWS OF THIS SEAT. 7 by the template 'for every input the law returns true; each argument reads behind the call as it read before'; 0 by the template 'total and deterministic' (their statements: YtophgamjhngppaaDoorTotals.lean).
  GIVEN WITH THE SEED: the statements are not yours to turn. If you find one false, say at which input.
  Laid BY PROGRAM, IN A SANDBOX (cutbox-rows.mjs): the forced cells as the released guide's own fill.sh prints them over the translation e724d6801508d0d4… (all of the seat's roots in one cut). By AI agents, Wed Nov 11 2026. No macro, syntax, notation, axiom, sorry.
-/
import Derived.Test.YtophgamjhngppaaDoorChecked
import GoSem.PinnedTables
import GoSem.Claim
import GoSem.ClaimJoined
import GoSem.ClaimMapViews
import Derived.JoinedTies
import Derived.KernelRfl
namespace Go.Proofs.YtophgamjhngppaaDoor
/- THE CELL 'sum', in the pinned program and in every row, IS THE sha256 OF THE DUMP (.gsa) THAT YtophgamjhngppaaDoorProg.lean LOADS. Nothing in Lean hashes anything: it is a label: what it is worth is what the hold of that sum in a sandbox is worth. -/
noncomputable def Tryd.pinned : Pinned := { name := "ytophgamjhngppaadoor", sum := "e724d6801508d0d4072c5581bcee9e51f9d3c1b787d4fc7b34ad073323dd294a", checked := Tryd.checked }
namespace Rows
def none {H : Type} : Left H := { results := [], args := [] }

/- WHAT THE LISTED PACKAGE-LEVEL VARIABLES READ AS WHEN THE CALL BEGINS. Each datum BY PROGRAM (the guide's laid-datum.mjs) off the statement by which the dump's own 'gosem.cut.vars' lays the variable. In a bare row this is a premise. The card (YtophgamjhngppaaDoorCards.lean) ties it to the program's text. -/
def laid_unicode_utf8_acceptRanges {H : Type} : DataW H := .agg [.agg [.lit (.int .u8 128), .lit (.int .u8 191)], .agg [.lit (.int .u8 160), .lit (.int .u8 191)], .agg [.lit (.int .u8 128), .lit (.int .u8 159)], .agg [.lit (.int .u8 144), .lit (.int .u8 191)], .agg [.lit (.int .u8 128), .lit (.int .u8 143)], .agg [.lit (.int .u8 0), .lit (.int .u8 0)], .agg [.lit (.int .u8 0), .lit (.int .u8 0)], .agg [.lit (.int .u8 0), .lit (.int .u8 0)], .agg [.lit (.int .u8 0), .lit (.int .u8 0)], .agg [.lit (.int .u8 0), .lit (.int .u8 0)], .agg [.lit (.int .u8 0), .lit (.int .u8 0)], .agg [.lit (.int .u8 0), .lit (.int .u8 0)], .agg [.lit (.int .u8 0), .lit (.int .u8 0)], .agg [.lit (.int .u8 0), .lit (.int .u8 0)], .agg [.lit (.int .u8 0), .lit (.int .u8 0)], .agg [.lit (.int .u8 0), .lit (.int .u8 0)]]
/-- One of Go's own tables, pinned by name: the form's constant. -/
def laid_unicode_utf8_first : DataW Unit := Go.Pinned.utf8First

/-- 'chartularylaw09.CabinetPlays': WHATEVER THE INPUT: true; the input reads as it did. -/
def cabinetPlaysSpec : ChangeSpec := { name := "cabinetPlays", fn := fun _ => fun
  | [d1, d2] => { results := [.lit (.bool true)], args := [d1, d2] }
  | _ => none }
def cabinetPlaysRow : OpenClaim := { program := "ytophgamjhngppaadoor", sum := "e724d6801508d0d4072c5581bcee9e51f9d3c1b787d4fc7b34ad073323dd294a", func := "chartulary/chartularylaw09.CabinetPlays", spec := "cabinetPlays", inPlace := ["internal/bytealg.IndexByteString", "internal/bytealg.IndexString", "maps.clone"], unfollowed := true, recurses := true, named := ["unicode/utf8.first", "unicode/utf8.acceptRanges", "internal/bytealg.MaxLen"], apart := false, laid := [("unicode/utf8.acceptRanges", laid_unicode_utf8_acceptRanges), ("unicode/utf8.first", laid_unicode_utf8_first)] }
def CabinetPlaysSaid : Prop := cabinetPlaysRow.holds Tryd.pinned (OpenSpec.ofChange cabinetPlaysSpec)

/-- ITS FALSE NEIGHBOUR: 'it returns false'. Refute it at one input. -/
def cabinetPlaysWrong : ChangeSpec := { name := "cabinetPlays", fn := fun _ => fun
  | [d1, d2] => { results := [.lit (.bool false)], args := [d1, d2] }
  | _ => none }
def CabinetPlaysWrongFalsely : Prop := cabinetPlaysRow.holds Tryd.pinned (OpenSpec.ofChange cabinetPlaysWrong)

/-- 'chartularylaw09.CabinetNone': WHATEVER THE INPUT: true; the input reads as it did. -/
def cabinetNoneSpec : ChangeSpec := { name := "cabinetNone", fn := fun _ => fun
  | [d1, d2, d3] => { results := [.lit (.bool true)], args := [d1, d2, d3] }
  | _ => none }
def cabinetNoneRow : OpenClaim := { program := "ytophgamjhngppaadoor", sum := "e724d6801508d0d4072c5581bcee9e51f9d3c1b787d4fc7b34ad073323dd294a", func := "chartulary/chartularylaw09.CabinetNone", spec := "cabinetNone", inPlace := ["maps.clone", "internal/bytealg.IndexByteString", "internal/bytealg.IndexString"], unfollowed := true, recurses := true, named := ["unicode/utf8.first", "unicode/utf8.acceptRanges", "internal/bytealg.MaxLen"], apart := false, laid := [("unicode/utf8.acceptRanges", laid_unicode_utf8_acceptRanges), ("unicode/utf8.first", laid_unicode_utf8_first)] }
def CabinetNoneSaid : Prop := cabinetNoneRow.holds Tryd.pinned (OpenSpec.ofChange cabinetNoneSpec)

/-- ITS FALSE NEIGHBOUR: 'it returns false'. Refute it at one input. -/
def cabinetNoneWrong : ChangeSpec := { name := "cabinetNone", fn := fun _ => fun
  | [d1, d2, d3] => { results := [.lit (.bool false)], args := [d1, d2, d3] }
  | _ => none }
def CabinetNoneWrongFalsely : Prop := cabinetNoneRow.holds Tryd.pinned (OpenSpec.ofChange cabinetNoneWrong)

/-- 'chartularylaw09.CabinetRoom': WHATEVER THE INPUT: true; the input reads as it did. -/
def cabinetRoomSpec : ChangeSpec := { name := "cabinetRoom", fn := fun _ => fun
  | [d] => { results := [.lit (.bool true)], args := [d] }
  | _ => none }
def cabinetRoomRow : OpenClaim := { program := "ytophgamjhngppaadoor", sum := "e724d6801508d0d4072c5581bcee9e51f9d3c1b787d4fc7b34ad073323dd294a", func := "chartulary/chartularylaw09.CabinetRoom", spec := "cabinetRoom", inPlace := ["internal/bytealg.IndexByteString", "internal/bytealg.IndexString", "maps.clone"], unfollowed := true, recurses := true, named := ["unicode/utf8.first", "unicode/utf8.acceptRanges", "internal/bytealg.MaxLen"], apart := false, laid := [("unicode/utf8.acceptRanges", laid_unicode_utf8_acceptRanges), ("unicode/utf8.first", laid_unicode_utf8_first)] }
def CabinetRoomSaid : Prop := cabinetRoomRow.holds Tryd.pinned (OpenSpec.ofChange cabinetRoomSpec)

/-- ITS FALSE NEIGHBOUR: 'it returns false'. Refute it at one input. -/
def cabinetRoomWrong : ChangeSpec := { name := "cabinetRoom", fn := fun _ => fun
  | [d] => { results := [.lit (.bool false)], args := [d] }
  | _ => none }
def CabinetRoomWrongFalsely : Prop := cabinetRoomRow.holds Tryd.pinned (OpenSpec.ofChange cabinetRoomWrong)

/-- 'chartularylaw18.SegmentBytes': WHATEVER THE INPUT: true; the input reads as it did. -/
def segmentBytesSpec : ChangeSpec := { name := "segmentBytes", fn := fun _ => fun
  | [d1, d2] => { results := [.lit (.bool true)], args := [d1, d2] }
  | _ => none }
def segmentBytesRow : OpenClaim := { program := "ytophgamjhngppaadoor", sum := "e724d6801508d0d4072c5581bcee9e51f9d3c1b787d4fc7b34ad073323dd294a", func := "chartulary/chartularylaw18.SegmentBytes", spec := "segmentBytes", inPlace := ["internal/bytealg.IndexByteString", "internal/bytealg.IndexString", "maps.clone"], unfollowed := true, recurses := true, named := ["unicode/utf8.first", "unicode/utf8.acceptRanges", "internal/bytealg.MaxLen"], apart := false, laid := [("unicode/utf8.acceptRanges", laid_unicode_utf8_acceptRanges), ("unicode/utf8.first", laid_unicode_utf8_first)] }
def SegmentBytesSaid : Prop := segmentBytesRow.holds Tryd.pinned (OpenSpec.ofChange segmentBytesSpec)

/-- ITS FALSE NEIGHBOUR: 'it returns false'. Refute it at one input. -/
def segmentBytesWrong : ChangeSpec := { name := "segmentBytes", fn := fun _ => fun
  | [d1, d2] => { results := [.lit (.bool false)], args := [d1, d2] }
  | _ => none }
def SegmentBytesWrongFalsely : Prop := segmentBytesRow.holds Tryd.pinned (OpenSpec.ofChange segmentBytesWrong)

/-- 'chartularylaw18.SegmentLoads': WHATEVER THE INPUT: true; the input reads as it did. -/
def segmentLoadsSpec : ChangeSpec := { name := "segmentLoads", fn := fun _ => fun
  | [d1, d2, d3] => { results := [.lit (.bool true)], args := [d1, d2, d3] }
  | _ => none }
def segmentLoadsRow : OpenClaim := { program := "ytophgamjhngppaadoor", sum := "e724d6801508d0d4072c5581bcee9e51f9d3c1b787d4fc7b34ad073323dd294a", func := "chartulary/chartularylaw18.SegmentLoads", spec := "segmentLoads", inPlace := ["internal/bytealg.IndexByteString", "internal/bytealg.IndexString", "maps.clone"], unfollowed := true, recurses := true, named := ["unicode/utf8.first", "unicode/utf8.acceptRanges", "internal/bytealg.MaxLen"], apart := false, laid := [("unicode/utf8.acceptRanges", laid_unicode_utf8_acceptRanges), ("unicode/utf8.first", laid_unicode_utf8_first)] }
def SegmentLoadsSaid : Prop := segmentLoadsRow.holds Tryd.pinned (OpenSpec.ofChange segmentLoadsSpec)

/-- ITS FALSE NEIGHBOUR: 'it returns false'. Refute it at one input. -/
def segmentLoadsWrong : ChangeSpec := { name := "segmentLoads", fn := fun _ => fun
  | [d1, d2, d3] => { results := [.lit (.bool false)], args := [d1, d2, d3] }
  | _ => none }
def SegmentLoadsWrongFalsely : Prop := segmentLoadsRow.holds Tryd.pinned (OpenSpec.ofChange segmentLoadsWrong)

/-- 'chartularylaw18.SegmentLasts': WHATEVER THE INPUT: true; the input reads as it did. -/
def segmentLastsSpec : ChangeSpec := { name := "segmentLasts", fn := fun _ => fun
  | [d1, d2, d3, d4, d5, d6] => { results := [.lit (.bool true)], args := [d1, d2, d3, d4, d5, d6] }
  | _ => none }
def segmentLastsRow : OpenClaim := { program := "ytophgamjhngppaadoor", sum := "e724d6801508d0d4072c5581bcee9e51f9d3c1b787d4fc7b34ad073323dd294a", func := "chartulary/chartularylaw18.SegmentLasts", spec := "segmentLasts", inPlace := ["internal/bytealg.IndexByteString", "internal/bytealg.IndexString", "maps.clone"], unfollowed := true, recurses := true, named := ["unicode/utf8.first", "unicode/utf8.acceptRanges", "internal/bytealg.MaxLen"], apart := false, laid := [("unicode/utf8.acceptRanges", laid_unicode_utf8_acceptRanges), ("unicode/utf8.first", laid_unicode_utf8_first)] }
def SegmentLastsSaid : Prop := segmentLastsRow.holds Tryd.pinned (OpenSpec.ofChange segmentLastsSpec)

/-- ITS FALSE NEIGHBOUR: 'it returns false'. Refute it at one input. -/
def segmentLastsWrong : ChangeSpec := { name := "segmentLasts", fn := fun _ => fun
  | [d1, d2, d3, d4, d5, d6] => { results := [.lit (.bool false)], args := [d1, d2, d3, d4, d5, d6] }
  | _ => none }
def SegmentLastsWrongFalsely : Prop := segmentLastsRow.holds Tryd.pinned (OpenSpec.ofChange segmentLastsWrong)

/-- 'chartularylaw18.SegmentList': WHATEVER THE INPUT: true; the input reads as it did. -/
def segmentListSpec : ChangeSpec := { name := "segmentList", fn := fun _ => fun
  | [d1, d2] => { results := [.lit (.bool true)], args := [d1, d2] }
  | _ => none }
def segmentListRow : OpenClaim := { program := "ytophgamjhngppaadoor", sum := "e724d6801508d0d4072c5581bcee9e51f9d3c1b787d4fc7b34ad073323dd294a", func := "chartulary/chartularylaw18.SegmentList", spec := "segmentList", inPlace := ["internal/bytealg.IndexByteString", "internal/bytealg.IndexString", "maps.clone"], unfollowed := true, recurses := true, named := ["unicode/utf8.first", "unicode/utf8.acceptRanges", "internal/bytealg.MaxLen"], apart := false, laid := [("unicode/utf8.acceptRanges", laid_unicode_utf8_acceptRanges), ("unicode/utf8.first", laid_unicode_utf8_first)] }
def SegmentListSaid : Prop := segmentListRow.holds Tryd.pinned (OpenSpec.ofChange segmentListSpec)

/-- ITS FALSE NEIGHBOUR: 'it returns false'. Refute it at one input. -/
def segmentListWrong : ChangeSpec := { name := "segmentList", fn := fun _ => fun
  | [d1, d2] => { results := [.lit (.bool false)], args := [d1, d2] }
  | _ => none }
def SegmentListWrongFalsely : Prop := segmentListRow.holds Tryd.pinned (OpenSpec.ofChange segmentListWrong)

/- THE SECOND FORM. 'bulk': how many values and letters a reading holds, each counted each time it is reached (what is shared counts as often as it is met; a slice's spare places count too). A statement '..UptoSaid' is the law's where the arguments, and the package variables that the reading takes, are together of bulk at most 1048576: NARROWER than '..Said'. Prove '..Said' where nothing that the law and all that it calls make is longer than what came in: it says more and counts as full. Else prove '..UptoSaid'. A law counts once. -/
mutual
def uptoBulk {H : Type} : DataW H → Nat
  | .lit (.string bytes) => bytes.length + 1
  | .lit _ => 1
  | .nil => 1
  | .ptr d => uptoBulk d + 1
  | .slice elems spare => uptoBulkAll elems + uptoBulkAll spare + 1
  | .agg parts => uptoBulkAll parts + 1
  | .iface _ d => uptoBulk d + 1
  | .map entries => uptoBulkEntries entries + 1
  | .held _ => 1
def uptoBulkAll {H : Type} : List (DataW H) → Nat
  | [] => 0
  | d :: r => uptoBulk d + uptoBulkAll r
def uptoBulkEntries {H : Type} : List (Lit × DataW H) → Nat
  | [] => 0
  | x :: r => uptoBulkEntry x + uptoBulkEntries r
def uptoBulkEntry {H : Type} : Lit × DataW H → Nat
  | (.string bytes, d) => bytes.length + uptoBulk d + 1
  | (_, d) => uptoBulk d + 1
 end
def uptoSmall : (H : Type) → List (DataW H) → Bool := fun _ ds => decide (uptoBulkAll ds ≤ 1048576)
def OpenSpec.upto (s : _root_.Go.ChangeSpec) : _root_.Go.OpenSpec := { _root_.Go.OpenSpec.ofChange s with cond := some uptoSmall }

/-- 'chartularylaw09.CabinetPlays', WHERE WHAT IT READS IS OF BULK AT MOST 1048576: true; the input reads as it did. -/
def cabinetPlaysUptoRow : OpenClaim := { program := "ytophgamjhngppaadoor", sum := "e724d6801508d0d4072c5581bcee9e51f9d3c1b787d4fc7b34ad073323dd294a", func := "chartulary/chartularylaw09.CabinetPlays", spec := "cabinetPlays", inPlace := ["internal/bytealg.IndexByteString", "internal/bytealg.IndexString", "maps.clone"], unfollowed := true, recurses := true, named := ["unicode/utf8.first", "unicode/utf8.acceptRanges", "internal/bytealg.MaxLen"], apart := false, laid := [("unicode/utf8.acceptRanges", laid_unicode_utf8_acceptRanges), ("unicode/utf8.first", laid_unicode_utf8_first)], narrowed := true }
def CabinetPlaysUptoSaid : Prop := cabinetPlaysUptoRow.holds Tryd.pinned (OpenSpec.upto cabinetPlaysSpec)

/-- 'chartularylaw09.CabinetNone', WHERE WHAT IT READS IS OF BULK AT MOST 1048576: true; the input reads as it did. -/
def cabinetNoneUptoRow : OpenClaim := { program := "ytophgamjhngppaadoor", sum := "e724d6801508d0d4072c5581bcee9e51f9d3c1b787d4fc7b34ad073323dd294a", func := "chartulary/chartularylaw09.CabinetNone", spec := "cabinetNone", inPlace := ["maps.clone", "internal/bytealg.IndexByteString", "internal/bytealg.IndexString"], unfollowed := true, recurses := true, named := ["unicode/utf8.first", "unicode/utf8.acceptRanges", "internal/bytealg.MaxLen"], apart := false, laid := [("unicode/utf8.acceptRanges", laid_unicode_utf8_acceptRanges), ("unicode/utf8.first", laid_unicode_utf8_first)], narrowed := true }
def CabinetNoneUptoSaid : Prop := cabinetNoneUptoRow.holds Tryd.pinned (OpenSpec.upto cabinetNoneSpec)

/-- 'chartularylaw09.CabinetRoom', WHERE WHAT IT READS IS OF BULK AT MOST 1048576: true; the input reads as it did. -/
def cabinetRoomUptoRow : OpenClaim := { program := "ytophgamjhngppaadoor", sum := "e724d6801508d0d4072c5581bcee9e51f9d3c1b787d4fc7b34ad073323dd294a", func := "chartulary/chartularylaw09.CabinetRoom", spec := "cabinetRoom", inPlace := ["internal/bytealg.IndexByteString", "internal/bytealg.IndexString", "maps.clone"], unfollowed := true, recurses := true, named := ["unicode/utf8.first", "unicode/utf8.acceptRanges", "internal/bytealg.MaxLen"], apart := false, laid := [("unicode/utf8.acceptRanges", laid_unicode_utf8_acceptRanges), ("unicode/utf8.first", laid_unicode_utf8_first)], narrowed := true }
def CabinetRoomUptoSaid : Prop := cabinetRoomUptoRow.holds Tryd.pinned (OpenSpec.upto cabinetRoomSpec)

/-- 'chartularylaw18.SegmentBytes', WHERE WHAT IT READS IS OF BULK AT MOST 1048576: true; the input reads as it did. -/
def segmentBytesUptoRow : OpenClaim := { program := "ytophgamjhngppaadoor", sum := "e724d6801508d0d4072c5581bcee9e51f9d3c1b787d4fc7b34ad073323dd294a", func := "chartulary/chartularylaw18.SegmentBytes", spec := "segmentBytes", inPlace := ["internal/bytealg.IndexByteString", "internal/bytealg.IndexString", "maps.clone"], unfollowed := true, recurses := true, named := ["unicode/utf8.first", "unicode/utf8.acceptRanges", "internal/bytealg.MaxLen"], apart := false, laid := [("unicode/utf8.acceptRanges", laid_unicode_utf8_acceptRanges), ("unicode/utf8.first", laid_unicode_utf8_first)], narrowed := true }
def SegmentBytesUptoSaid : Prop := segmentBytesUptoRow.holds Tryd.pinned (OpenSpec.upto segmentBytesSpec)

/-- 'chartularylaw18.SegmentLoads', WHERE WHAT IT READS IS OF BULK AT MOST 1048576: true; the input reads as it did. -/
def segmentLoadsUptoRow : OpenClaim := { program := "ytophgamjhngppaadoor", sum := "e724d6801508d0d4072c5581bcee9e51f9d3c1b787d4fc7b34ad073323dd294a", func := "chartulary/chartularylaw18.SegmentLoads", spec := "segmentLoads", inPlace := ["internal/bytealg.IndexByteString", "internal/bytealg.IndexString", "maps.clone"], unfollowed := true, recurses := true, named := ["unicode/utf8.first", "unicode/utf8.acceptRanges", "internal/bytealg.MaxLen"], apart := false, laid := [("unicode/utf8.acceptRanges", laid_unicode_utf8_acceptRanges), ("unicode/utf8.first", laid_unicode_utf8_first)], narrowed := true }
def SegmentLoadsUptoSaid : Prop := segmentLoadsUptoRow.holds Tryd.pinned (OpenSpec.upto segmentLoadsSpec)

/-- 'chartularylaw18.SegmentLasts', WHERE WHAT IT READS IS OF BULK AT MOST 1048576: true; the input reads as it did. -/
def segmentLastsUptoRow : OpenClaim := { program := "ytophgamjhngppaadoor", sum := "e724d6801508d0d4072c5581bcee9e51f9d3c1b787d4fc7b34ad073323dd294a", func := "chartulary/chartularylaw18.SegmentLasts", spec := "segmentLasts", inPlace := ["internal/bytealg.IndexByteString", "internal/bytealg.IndexString", "maps.clone"], unfollowed := true, recurses := true, named := ["unicode/utf8.first", "unicode/utf8.acceptRanges", "internal/bytealg.MaxLen"], apart := false, laid := [("unicode/utf8.acceptRanges", laid_unicode_utf8_acceptRanges), ("unicode/utf8.first", laid_unicode_utf8_first)], narrowed := true }
def SegmentLastsUptoSaid : Prop := segmentLastsUptoRow.holds Tryd.pinned (OpenSpec.upto segmentLastsSpec)

/-- 'chartularylaw18.SegmentList', WHERE WHAT IT READS IS OF BULK AT MOST 1048576: true; the input reads as it did. -/
def segmentListUptoRow : OpenClaim := { program := "ytophgamjhngppaadoor", sum := "e724d6801508d0d4072c5581bcee9e51f9d3c1b787d4fc7b34ad073323dd294a", func := "chartulary/chartularylaw18.SegmentList", spec := "segmentList", inPlace := ["internal/bytealg.IndexByteString", "internal/bytealg.IndexString", "maps.clone"], unfollowed := true, recurses := true, named := ["unicode/utf8.first", "unicode/utf8.acceptRanges", "internal/bytealg.MaxLen"], apart := false, laid := [("unicode/utf8.acceptRanges", laid_unicode_utf8_acceptRanges), ("unicode/utf8.first", laid_unicode_utf8_first)], narrowed := true }
def SegmentListUptoSaid : Prop := segmentListUptoRow.holds Tryd.pinned (OpenSpec.upto segmentListSpec)

end Rows
end Go.Proofs.YtophgamjhngppaaDoor
