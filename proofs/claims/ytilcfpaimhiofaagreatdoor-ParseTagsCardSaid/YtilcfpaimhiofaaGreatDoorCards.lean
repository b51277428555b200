/-
  DERIVED. GIVEN WITH THE SEED: THE CARDS: each row of YtilcfpaimhiofaaGreatDoorRows.lean that lists a variable, with what it lists TIED to the program's text (the seventh form; the later family's looks); each row that meets fmt, with fmt's text TOLD by the authors' own Lean function (tested against real Go, not proved from fmt's source: count such statements apart). THE CARD IS WHAT COUNTS. Prove the row's statement (the work); the ties are given (YtilcfpaimhiofaaGreatDoorTie.lean); close each card by the builder's one call (the guide's Derived/Test/ToyasCard.lean, 'card_holds'). Laid BY PROGRAM, IN A SANDBOX (cutbox-door.mjs). By AI agents, Wed Nov 11 2026. No macro, syntax, notation, axiom, sorry.
-/
import Derived.Test.YtilcfpaimhiofaaGreatDoorRows
import GoSem.ClaimSeven
namespace Go.Proofs.YtilcfpaimhiofaaGreatDoor
namespace Rows

/-- THE TIED CARD OF 'cubbylaw17.SearchNone'. -/
def searchNoneCard : Claim7 := { stood := { row := searchNoneRow, standIns := [], harness := (true, "9e66b13df40eb817f5db0f8396f6eea09c7cd95ceece66c9aa26ce59e11ba982"), looks := true }, kinds := [], alts := [], laidByText := true, laidKinds := [.data, .data, .data, .data, .sentinel, .sentinel, .pinned], laidTests := true, laidLooks := .later }
def SearchNoneCardSaid : Prop := Claim7.holds Tryz.pinned (.plain (OpenSpec.ofChange searchNoneSpec)) searchNoneCard

/-- THE TIED CARD OF 'cubbylaw16.ParseTags'. -/
def parseTagsCard : Claim7 := { stood := { row := parseTagsRow, standIns := [], harness := (true, "9e66b13df40eb817f5db0f8396f6eea09c7cd95ceece66c9aa26ce59e11ba982"), looks := true }, kinds := [], alts := [], laidByText := true, laidKinds := [.data, .data, .data, .data, .sentinel, .sentinel, .pinned, .pinned], laidTests := true, laidLooks := .later }
def ParseTagsCardSaid : Prop := Claim7.holds Tryz.pinned (.plain (OpenSpec.ofChange parseTagsSpec)) parseTagsCard

/-- THE SECOND FORM's CARD OF 'cubbylaw17.SearchNone'. -/
def searchNoneUptoCard : Claim7 := { stood := { row := searchNoneUptoRow, standIns := [], harness := (true, "9e66b13df40eb817f5db0f8396f6eea09c7cd95ceece66c9aa26ce59e11ba982"), looks := true }, kinds := [], alts := [], laidByText := true, laidKinds := [.data, .data, .data, .data, .sentinel, .sentinel, .pinned], laidTests := true, laidLooks := .later }
def SearchNoneUptoCardSaid : Prop := Claim7.holds Tryz.pinned (.plain (OpenSpec.upto searchNoneSpec)) searchNoneUptoCard

/-- THE SECOND FORM's CARD OF 'cubbylaw16.ParseTags'. -/
def parseTagsUptoCard : Claim7 := { stood := { row := parseTagsUptoRow, standIns := [], harness := (true, "9e66b13df40eb817f5db0f8396f6eea09c7cd95ceece66c9aa26ce59e11ba982"), looks := true }, kinds := [], alts := [], laidByText := true, laidKinds := [.data, .data, .data, .data, .sentinel, .sentinel, .pinned, .pinned], laidTests := true, laidLooks := .later }
def ParseTagsUptoCardSaid : Prop := Claim7.holds Tryz.pinned (.plain (OpenSpec.upto parseTagsSpec)) parseTagsUptoCard
end Rows
end Go.Proofs.YtilcfpaimhiofaaGreatDoor
