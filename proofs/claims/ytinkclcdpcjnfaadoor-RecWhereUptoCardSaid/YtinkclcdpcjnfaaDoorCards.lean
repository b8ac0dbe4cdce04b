/-
  DERIVED. GIVEN WITH THE SEED: THE CARDS: each row of YtinkclcdpcjnfaaDoorRows.lean that lists a variable, with what it lists TIED to the program's text (the seventh form; the later family's looks); each row that meets fmt, with fmt's text TOLD by the authors' own Lean function (tested against real Go, not proved from fmt's source: count such statements apart). THE CARD IS WHAT COUNTS. Prove the row's statement (the work); the ties are given (YtinkclcdpcjnfaaDoorTie.lean); close each card by the builder's one call (the guide's Derived/Test/ToyasCard.lean, 'card_holds'). Laid BY PROGRAM, IN A SANDBOX (cutbox-door.mjs). By AI agents, Wed Nov 11 2026. No macro, syntax, notation, axiom, sorry.
-/
import Derived.Test.YtinkclcdpcjnfaaDoorRows
import GoSem.ClaimSeven
namespace Go.Proofs.YtinkclcdpcjnfaaDoor
namespace Rows

/-- THE TIED CARD OF 'shamrocklaw16.RecStates'. -/
def recStatesCard : Claim7 := { stood := { row := recStatesRow, standIns := [], harness := (true, "659403ceb0a0ba7ac9821ebceb83238286ee68261ac307f9bed4edb0538aea05"), looks := false }, kinds := [], alts := [], laidByText := true, laidKinds := [.data], laidTests := true, laidLooks := .later }
def RecStatesCardSaid : Prop := Claim7.holds Tryd.pinned (.plain (OpenSpec.ofChange recStatesSpec)) recStatesCard

/-- THE TIED CARD OF 'shamrocklaw16.RecBooks'. -/
def recBooksCard : Claim7 := { stood := { row := recBooksRow, standIns := [], harness := (true, "659403ceb0a0ba7ac9821ebceb83238286ee68261ac307f9bed4edb0538aea05"), looks := false }, kinds := [], alts := [], laidByText := true, laidKinds := [.data], laidTests := true, laidLooks := .later }
def RecBooksCardSaid : Prop := Claim7.holds Tryd.pinned (.plain (OpenSpec.ofChange recBooksSpec)) recBooksCard

/-- THE TIED CARD OF 'shamrocklaw16.RecReads'. -/
def recReadsCard : Claim7 := { stood := { row := recReadsRow, standIns := [], harness := (true, "659403ceb0a0ba7ac9821ebceb83238286ee68261ac307f9bed4edb0538aea05"), looks := false }, kinds := [], alts := [], laidByText := true, laidKinds := [.data], laidTests := true, laidLooks := .later }
def RecReadsCardSaid : Prop := Claim7.holds Tryd.pinned (.plain (OpenSpec.ofChange recReadsSpec)) recReadsCard

/-- THE TIED CARD OF 'shamrocklaw16.RecTags'. -/
def recTagsCard : Claim7 := { stood := { row := recTagsRow, standIns := [], harness := (true, "659403ceb0a0ba7ac9821ebceb83238286ee68261ac307f9bed4edb0538aea05"), looks := false }, kinds := [], alts := [], laidByText := true, laidKinds := [.data], laidTests := true, laidLooks := .later }
def RecTagsCardSaid : Prop := Claim7.holds Tryd.pinned (.plain (OpenSpec.ofChange recTagsSpec)) recTagsCard

/-- THE TIED CARD OF 'shamrocklaw16.RecUnlike'. -/
def recUnlikeCard : Claim7 := { stood := { row := recUnlikeRow, standIns := [], harness := (true, "659403ceb0a0ba7ac9821ebceb83238286ee68261ac307f9bed4edb0538aea05"), looks := false }, kinds := [], alts := [], laidByText := true, laidKinds := [.data], laidTests := true, laidLooks := .later }
def RecUnlikeCardSaid : Prop := Claim7.holds Tryd.pinned (.plain (OpenSpec.ofChange recUnlikeSpec)) recUnlikeCard

/-- THE TIED CARD OF 'shamrocklaw16.RecWhere'. -/
def recWhereCard : Claim7 := { stood := { row := recWhereRow, standIns := [], harness := (true, "659403ceb0a0ba7ac9821ebceb83238286ee68261ac307f9bed4edb0538aea05"), looks := false }, kinds := [], alts := [], laidByText := true, laidKinds := [.data], laidTests := true, laidLooks := .later }
def RecWhereCardSaid : Prop := Claim7.holds Tryd.pinned (.plain (OpenSpec.ofChange recWhereSpec)) recWhereCard

/-- THE SECOND FORM's CARD OF 'shamrocklaw16.RecStates'. -/
def recStatesUptoCard : Claim7 := { stood := { row := recStatesUptoRow, standIns := [], harness := (true, "659403ceb0a0ba7ac9821ebceb83238286ee68261ac307f9bed4edb0538aea05"), looks := false }, kinds := [], alts := [], laidByText := true, laidKinds := [.data], laidTests := true, laidLooks := .later }
def RecStatesUptoCardSaid : Prop := Claim7.holds Tryd.pinned (.plain (OpenSpec.upto recStatesSpec)) recStatesUptoCard

/-- THE SECOND FORM's CARD OF 'shamrocklaw16.RecBooks'. -/
def recBooksUptoCard : Claim7 := { stood := { row := recBooksUptoRow, standIns := [], harness := (true, "659403ceb0a0ba7ac9821ebceb83238286ee68261ac307f9bed4edb0538aea05"), looks := false }, kinds := [], alts := [], laidByText := true, laidKinds := [.data], laidTests := true, laidLooks := .later }
def RecBooksUptoCardSaid : Prop := Claim7.holds Tryd.pinned (.plain (OpenSpec.upto recBooksSpec)) recBooksUptoCard

/-- THE SECOND FORM's CARD OF 'shamrocklaw16.RecReads'. -/
def recReadsUptoCard : Claim7 := { stood := { row := recReadsUptoRow, standIns := [], harness := (true, "659403ceb0a0ba7ac9821ebceb83238286ee68261ac307f9bed4edb0538aea05"), looks := false }, kinds := [], alts := [], laidByText := true, laidKinds := [.data], laidTests := true, laidLooks := .later }
def RecReadsUptoCardSaid : Prop := Claim7.holds Tryd.pinned (.plain (OpenSpec.upto recReadsSpec)) recReadsUptoCard

/-- THE SECOND FORM's CARD OF 'shamrocklaw16.RecTags'. -/
def recTagsUptoCard : Claim7 := { stood := { row := recTagsUptoRow, standIns := [], harness := (true, "659403ceb0a0ba7ac9821ebceb83238286ee68261ac307f9bed4edb0538aea05"), looks := false }, kinds := [], alts := [], laidByText := true, laidKinds := [.data], laidTests := true, laidLooks := .later }
def RecTagsUptoCardSaid : Prop := Claim7.holds Tryd.pinned (.plain (OpenSpec.upto recTagsSpec)) recTagsUptoCard

/-- THE SECOND FORM's CARD OF 'shamrocklaw16.RecUnlike'. -/
def recUnlikeUptoCard : Claim7 := { stood := { row := recUnlikeUptoRow, standIns := [], harness := (true, "659403ceb0a0ba7ac9821ebceb83238286ee68261ac307f9bed4edb0538aea05"), looks := false }, kinds := [], alts := [], laidByText := true, laidKinds := [.data], laidTests := true, laidLooks := .later }
def RecUnlikeUptoCardSaid : Prop := Claim7.holds Tryd.pinned (.plain (OpenSpec.upto recUnlikeSpec)) recUnlikeUptoCard

/-- THE SECOND FORM's CARD OF 'shamrocklaw16.RecWhere'. -/
def recWhereUptoCard : Claim7 := { stood := { row := recWhereUptoRow, standIns := [], harness := (true, "659403ceb0a0ba7ac9821ebceb83238286ee68261ac307f9bed4edb0538aea05"), looks := false }, kinds := [], alts := [], laidByText := true, laidKinds := [.data], laidTests := true, laidLooks := .later }
def RecWhereUptoCardSaid : Prop := Claim7.holds Tryd.pinned (.plain (OpenSpec.upto recWhereSpec)) recWhereUptoCard
end Rows
end Go.Proofs.YtinkclcdpcjnfaaDoor
