/-
  DERIVED. GIVEN WITH THE SEED: THE CARDS: each row of YtophgamjhngppaaDoorRows.lean that lists a variable, with what it lists TIED to the program's text (the seventh form; the later family's looks); each row that meets fmt, with fmt's text TOLD by the authors' own Lean function (tested against real Go, not proved from fmt's source: count such statements apart). THE CARD IS WHAT COUNTS. Prove the row's statement (the work); the ties are given (YtophgamjhngppaaDoorTie.lean); close each card by the builder's one call (the guide's Derived/Test/ToyasCard.lean, 'card_holds'). Laid BY PROGRAM, IN A SANDBOX (cutbox-door.mjs). By AI agents, Wed Nov 11 2026. No macro, syntax, notation, axiom, sorry.
-/
import Derived.Test.YtophgamjhngppaaDoorRows
import GoSem.ClaimSeven
namespace Go.Proofs.YtophgamjhngppaaDoor
namespace Rows

/-- THE TIED CARD OF 'chartularylaw09.CabinetPlays'. -/
def cabinetPlaysCard : Claim7 := { stood := { row := cabinetPlaysRow, standIns := [], harness := (true, "563ccdc0eeb8303ad40651c45afb37ea9a953511de53c23f365716abd6d68f19"), looks := true }, kinds := [], alts := [], laidByText := true, laidKinds := [.data, .pinned], laidTests := true, laidLooks := .later }
def CabinetPlaysCardSaid : Prop := Claim7.holds Tryd.pinned (.plain (OpenSpec.ofChange cabinetPlaysSpec)) cabinetPlaysCard

/-- THE TIED CARD OF 'chartularylaw09.CabinetNone'. -/
def cabinetNoneCard : Claim7 := { stood := { row := cabinetNoneRow, standIns := [], harness := (true, "563ccdc0eeb8303ad40651c45afb37ea9a953511de53c23f365716abd6d68f19"), looks := true }, kinds := [], alts := [], laidByText := true, laidKinds := [.data, .pinned], laidTests := true, laidLooks := .later }
def CabinetNoneCardSaid : Prop := Claim7.holds Tryd.pinned (.plain (OpenSpec.ofChange cabinetNoneSpec)) cabinetNoneCard

/-- THE TIED CARD OF 'chartularylaw09.CabinetRoom'. -/
def cabinetRoomCard : Claim7 := { stood := { row := cabinetRoomRow, standIns := [], harness := (true, "563ccdc0eeb8303ad40651c45afb37ea9a953511de53c23f365716abd6d68f19"), looks := true }, kinds := [], alts := [], laidByText := true, laidKinds := [.data, .pinned], laidTests := true, laidLooks := .later }
def CabinetRoomCardSaid : Prop := Claim7.holds Tryd.pinned (.plain (OpenSpec.ofChange cabinetRoomSpec)) cabinetRoomCard

/-- THE TIED CARD OF 'chartularylaw18.SegmentBytes'. -/
def segmentBytesCard : Claim7 := { stood := { row := segmentBytesRow, standIns := [], harness := (true, "563ccdc0eeb8303ad40651c45afb37ea9a953511de53c23f365716abd6d68f19"), looks := true }, kinds := [], alts := [], laidByText := true, laidKinds := [.data, .pinned], laidTests := true, laidLooks := .later }
def SegmentBytesCardSaid : Prop := Claim7.holds Tryd.pinned (.plain (OpenSpec.ofChange segmentBytesSpec)) segmentBytesCard

/-- THE TIED CARD OF 'chartularylaw18.SegmentLoads'. -/
def segmentLoadsCard : Claim7 := { stood := { row := segmentLoadsRow, standIns := [], harness := (true, "563ccdc0eeb8303ad40651c45afb37ea9a953511de53c23f365716abd6d68f19"), looks := true }, kinds := [], alts := [], laidByText := true, laidKinds := [.data, .pinned], laidTests := true, laidLooks := .later }
def SegmentLoadsCardSaid : Prop := Claim7.holds Tryd.pinned (.plain (OpenSpec.ofChange segmentLoadsSpec)) segmentLoadsCard

/-- THE TIED CARD OF 'chartularylaw18.SegmentLasts'. -/
def segmentLastsCard : Claim7 := { stood := { row := segmentLastsRow, standIns := [], harness := (true, "563ccdc0eeb8303ad40651c45afb37ea9a953511de53c23f365716abd6d68f19"), looks := true }, kinds := [], alts := [], laidByText := true, laidKinds := [.data, .pinned], laidTests := true, laidLooks := .later }
def SegmentLastsCardSaid : Prop := Claim7.holds Tryd.pinned (.plain (OpenSpec.ofChange segmentLastsSpec)) segmentLastsCard

/-- THE TIED CARD OF 'chartularylaw18.SegmentList'. -/
def segmentListCard : Claim7 := { stood := { row := segmentListRow, standIns := [], harness := (true, "563ccdc0eeb8303ad40651c45afb37ea9a953511de53c23f365716abd6d68f19"), looks := true }, kinds := [], alts := [], laidByText := true, laidKinds := [.data, .pinned], laidTests := true, laidLooks := .later }
def SegmentListCardSaid : Prop := Claim7.holds Tryd.pinned (.plain (OpenSpec.ofChange segmentListSpec)) segmentListCard

/-- THE SECOND FORM's CARD OF 'chartularylaw09.CabinetPlays'. -/
def cabinetPlaysUptoCard : Claim7 := { stood := { row := cabinetPlaysUptoRow, standIns := [], harness := (true, "563ccdc0eeb8303ad40651c45afb37ea9a953511de53c23f365716abd6d68f19"), looks := true }, kinds := [], alts := [], laidByText := true, laidKinds := [.data, .pinned], laidTests := true, laidLooks := .later }
def CabinetPlaysUptoCardSaid : Prop := Claim7.holds Tryd.pinned (.plain (OpenSpec.upto cabinetPlaysSpec)) cabinetPlaysUptoCard

/-- THE SECOND FORM's CARD OF 'chartularylaw09.CabinetNone'. -/
def cabinetNoneUptoCard : Claim7 := { stood := { row := cabinetNoneUptoRow, standIns := [], harness := (true, "563ccdc0eeb8303ad40651c45afb37ea9a953511de53c23f365716abd6d68f19"), looks := true }, kinds := [], alts := [], laidByText := true, laidKinds := [.data, .pinned], laidTests := true, laidLooks := .later }
def CabinetNoneUptoCardSaid : Prop := Claim7.holds Tryd.pinned (.plain (OpenSpec.upto cabinetNoneSpec)) cabinetNoneUptoCard

/-- THE SECOND FORM's CARD OF 'chartularylaw09.CabinetRoom'. -/
def cabinetRoomUptoCard : Claim7 := { stood := { row := cabinetRoomUptoRow, standIns := [], harness := (true, "563ccdc0eeb8303ad40651c45afb37ea9a953511de53c23f365716abd6d68f19"), looks := true }, kinds := [], alts := [], laidByText := true, laidKinds := [.data, .pinned], laidTests := true, laidLooks := .later }
def CabinetRoomUptoCardSaid : Prop := Claim7.holds Tryd.pinned (.plain (OpenSpec.upto cabinetRoomSpec)) cabinetRoomUptoCard

/-- THE SECOND FORM's CARD OF 'chartularylaw18.SegmentBytes'. -/
def segmentBytesUptoCard : Claim7 := { stood := { row := segmentBytesUptoRow, standIns := [], harness := (true, "563ccdc0eeb8303ad40651c45afb37ea9a953511de53c23f365716abd6d68f19"), looks := true }, kinds := [], alts := [], laidByText := true, laidKinds := [.data, .pinned], laidTests := true, laidLooks := .later }
def SegmentBytesUptoCardSaid : Prop := Claim7.holds Tryd.pinned (.plain (OpenSpec.upto segmentBytesSpec)) segmentBytesUptoCard

/-- THE SECOND FORM's CARD OF 'chartularylaw18.SegmentLoads'. -/
def segmentLoadsUptoCard : Claim7 := { stood := { row := segmentLoadsUptoRow, standIns := [], harness := (true, "563ccdc0eeb8303ad40651c45afb37ea9a953511de53c23f365716abd6d68f19"), looks := true }, kinds := [], alts := [], laidByText := true, laidKinds := [.data, .pinned], laidTests := true, laidLooks := .later }
def SegmentLoadsUptoCardSaid : Prop := Claim7.holds Tryd.pinned (.plain (OpenSpec.upto segmentLoadsSpec)) segmentLoadsUptoCard

/-- THE SECOND FORM's CARD OF 'chartularylaw18.SegmentLasts'. -/
def segmentLastsUptoCard : Claim7 := { stood := { row := segmentLastsUptoRow, standIns := [], harness := (true, "563ccdc0eeb8303ad40651c45afb37ea9a953511de53c23f365716abd6d68f19"), looks := true }, kinds := [], alts := [], laidByText := true, laidKinds := [.data, .pinned], laidTests := true, laidLooks := .later }
def SegmentLastsUptoCardSaid : Prop := Claim7.holds Tryd.pinned (.plain (OpenSpec.upto segmentLastsSpec)) segmentLastsUptoCard

/-- THE SECOND FORM's CARD OF 'chartularylaw18.SegmentList'. -/
def segmentListUptoCard : Claim7 := { stood := { row := segmentListUptoRow, standIns := [], harness := (true, "563ccdc0eeb8303ad40651c45afb37ea9a953511de53c23f365716abd6d68f19"), looks := true }, kinds := [], alts := [], laidByText := true, laidKinds := [.data, .pinned], laidTests := true, laidLooks := .later }
def SegmentListUptoCardSaid : Prop := Claim7.holds Tryd.pinned (.plain (OpenSpec.upto segmentListSpec)) segmentListUptoCard
end Rows
end Go.Proofs.YtophgamjhngppaaDoor
