/-
  DERIVED. GIVEN WITH THE SEED: THE CARDS: each row of YtkaboebjdjfahaaDoorRows.lean that lists a variable, with what it lists TIED to the program's text (the seventh form; the later family's looks); each row that meets fmt, with fmt's text TOLD by the authors' own Lean function (tested against real Go, not proved from fmt's source: count such statements apart). THE CARD IS WHAT COUNTS. Prove the row's statement (the work); the ties are given (YtkaboebjdjfahaaDoorTie.lean); close each card by the builder's one call (the guide's Derived/Test/ToyasCard.lean, 'card_holds'). Laid BY PROGRAM, IN A SANDBOX (cutbox-door.mjs). By AI agents, Wed Nov 11 2026. No macro, syntax, notation, axiom, sorry.
-/
import Derived.Test.YtkaboebjdjfahaaDoorRows
import GoSem.ClaimSeven
namespace Go.Proofs.YtkaboebjdjfahaaDoor
namespace Rows

/-- THE TIED CARD OF 'shamrocklaw06.ShaSums'. -/
def shaSumsCard : Claim7 := { stood := { row := shaSumsRow, standIns := [], harness := (true, "d47afc3996d3d32a7c0ee11ffc6b3d043ca1b2968e03e2aaaeb5a722f830d071"), looks := false }, kinds := [], alts := [], laidByText := true, laidKinds := [.data], laidTests := true, laidLooks := .later }
def ShaSumsCardSaid : Prop := Claim7.holds Tryd.pinned (.plain (OpenSpec.ofChange shaSumsSpec)) shaSumsCard

/-- THE TIED CARD OF 'shamrocklaw06.ShaPads'. -/
def shaPadsCard : Claim7 := { stood := { row := shaPadsRow, standIns := [], harness := (true, "d47afc3996d3d32a7c0ee11ffc6b3d043ca1b2968e03e2aaaeb5a722f830d071"), looks := false }, kinds := [], alts := [], laidByText := true, laidKinds := [.data], laidTests := true, laidLooks := .later }
def ShaPadsCardSaid : Prop := Claim7.holds Tryd.pinned (.plain (OpenSpec.ofChange shaPadsSpec)) shaPadsCard

/-- THE TIED CARD OF 'shamrocklaw06.ShaOwn'. -/
def shaOwnCard : Claim7 := { stood := { row := shaOwnRow, standIns := [], harness := (true, "d47afc3996d3d32a7c0ee11ffc6b3d043ca1b2968e03e2aaaeb5a722f830d071"), looks := false }, kinds := [], alts := [], laidByText := true, laidKinds := [.data], laidTests := true, laidLooks := .later }
def ShaOwnCardSaid : Prop := Claim7.holds Tryd.pinned (.plain (OpenSpec.ofChange shaOwnSpec)) shaOwnCard

/-- THE TIED CARD OF 'shamrocklaw07.MacMarks'. -/
def macMarksCard : Claim7 := { stood := { row := macMarksRow, standIns := [], harness := (true, "d47afc3996d3d32a7c0ee11ffc6b3d043ca1b2968e03e2aaaeb5a722f830d071"), looks := false }, kinds := [], alts := [], laidByText := true, laidKinds := [.data], laidTests := true, laidLooks := .later }
def MacMarksCardSaid : Prop := Claim7.holds Tryd.pinned (.plain (OpenSpec.ofChange macMarksSpec)) macMarksCard

/-- THE TIED CARD OF 'shamrocklaw07.MacKeys'. -/
def macKeysCard : Claim7 := { stood := { row := macKeysRow, standIns := [], harness := (true, "d47afc3996d3d32a7c0ee11ffc6b3d043ca1b2968e03e2aaaeb5a722f830d071"), looks := false }, kinds := [], alts := [], laidByText := true, laidKinds := [.data], laidTests := true, laidLooks := .later }
def MacKeysCardSaid : Prop := Claim7.holds Tryd.pinned (.plain (OpenSpec.ofChange macKeysSpec)) macKeysCard

/-- THE TIED CARD OF 'shamrocklaw07.MacSame'. -/
def macSameCard : Claim7 := { stood := { row := macSameRow, standIns := [], harness := (true, "d47afc3996d3d32a7c0ee11ffc6b3d043ca1b2968e03e2aaaeb5a722f830d071"), looks := false }, kinds := [], alts := [], laidByText := true, laidKinds := [.data], laidTests := true, laidLooks := .later }
def MacSameCardSaid : Prop := Claim7.holds Tryd.pinned (.plain (OpenSpec.ofChange macSameSpec)) macSameCard

/-- THE TIED CARD OF 'shamrocklaw07.MacOwn'. -/
def macOwnCard : Claim7 := { stood := { row := macOwnRow, standIns := [], harness := (true, "d47afc3996d3d32a7c0ee11ffc6b3d043ca1b2968e03e2aaaeb5a722f830d071"), looks := false }, kinds := [], alts := [], laidByText := true, laidKinds := [.data], laidTests := true, laidLooks := .later }
def MacOwnCardSaid : Prop := Claim7.holds Tryd.pinned (.plain (OpenSpec.ofChange macOwnSpec)) macOwnCard

/-- THE SECOND FORM's CARD OF 'shamrocklaw06.ShaSums'. -/
def shaSumsUptoCard : Claim7 := { stood := { row := shaSumsUptoRow, standIns := [], harness := (true, "d47afc3996d3d32a7c0ee11ffc6b3d043ca1b2968e03e2aaaeb5a722f830d071"), looks := false }, kinds := [], alts := [], laidByText := true, laidKinds := [.data], laidTests := true, laidLooks := .later }
def ShaSumsUptoCardSaid : Prop := Claim7.holds Tryd.pinned (.plain (OpenSpec.upto shaSumsSpec)) shaSumsUptoCard

/-- THE SECOND FORM's CARD OF 'shamrocklaw06.ShaPads'. -/
def shaPadsUptoCard : Claim7 := { stood := { row := shaPadsUptoRow, standIns := [], harness := (true, "d47afc3996d3d32a7c0ee11ffc6b3d043ca1b2968e03e2aaaeb5a722f830d071"), looks := false }, kinds := [], alts := [], laidByText := true, laidKinds := [.data], laidTests := true, laidLooks := .later }
def ShaPadsUptoCardSaid : Prop := Claim7.holds Tryd.pinned (.plain (OpenSpec.upto shaPadsSpec)) shaPadsUptoCard

/-- THE SECOND FORM's CARD OF 'shamrocklaw06.ShaOwn'. -/
def shaOwnUptoCard : Claim7 := { stood := { row := shaOwnUptoRow, standIns := [], harness := (true, "d47afc3996d3d32a7c0ee11ffc6b3d043ca1b2968e03e2aaaeb5a722f830d071"), looks := false }, kinds := [], alts := [], laidByText := true, laidKinds := [.data], laidTests := true, laidLooks := .later }
def ShaOwnUptoCardSaid : Prop := Claim7.holds Tryd.pinned (.plain (OpenSpec.upto shaOwnSpec)) shaOwnUptoCard

/-- THE SECOND FORM's CARD OF 'shamrocklaw07.MacMarks'. -/
def macMarksUptoCard : Claim7 := { stood := { row := macMarksUptoRow, standIns := [], harness := (true, "d47afc3996d3d32a7c0ee11ffc6b3d043ca1b2968e03e2aaaeb5a722f830d071"), looks := false }, kinds := [], alts := [], laidByText := true, laidKinds := [.data], laidTests := true, laidLooks := .later }
def MacMarksUptoCardSaid : Prop := Claim7.holds Tryd.pinned (.plain (OpenSpec.upto macMarksSpec)) macMarksUptoCard

/-- THE SECOND FORM's CARD OF 'shamrocklaw07.MacKeys'. -/
def macKeysUptoCard : Claim7 := { stood := { row := macKeysUptoRow, standIns := [], harness := (true, "d47afc3996d3d32a7c0ee11ffc6b3d043ca1b2968e03e2aaaeb5a722f830d071"), looks := false }, kinds := [], alts := [], laidByText := true, laidKinds := [.data], laidTests := true, laidLooks := .later }
def MacKeysUptoCardSaid : Prop := Claim7.holds Tryd.pinned (.plain (OpenSpec.upto macKeysSpec)) macKeysUptoCard

/-- THE SECOND FORM's CARD OF 'shamrocklaw07.MacSame'. -/
def macSameUptoCard : Claim7 := { stood := { row := macSameUptoRow, standIns := [], harness := (true, "d47afc3996d3d32a7c0ee11ffc6b3d043ca1b2968e03e2aaaeb5a722f830d071"), looks := false }, kinds := [], alts := [], laidByText := true, laidKinds := [.data], laidTests := true, laidLooks := .later }
def MacSameUptoCardSaid : Prop := Claim7.holds Tryd.pinned (.plain (OpenSpec.upto macSameSpec)) macSameUptoCard

/-- THE SECOND FORM's CARD OF 'shamrocklaw07.MacOwn'. -/
def macOwnUptoCard : Claim7 := { stood := { row := macOwnUptoRow, standIns := [], harness := (true, "d47afc3996d3d32a7c0ee11ffc6b3d043ca1b2968e03e2aaaeb5a722f830d071"), looks := false }, kinds := [], alts := [], laidByText := true, laidKinds := [.data], laidTests := true, laidLooks := .later }
def MacOwnUptoCardSaid : Prop := Claim7.holds Tryd.pinned (.plain (OpenSpec.upto macOwnSpec)) macOwnUptoCard
end Rows
end Go.Proofs.YtkaboebjdjfahaaDoor
