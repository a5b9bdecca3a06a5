/-
  DERIVED. GIVEN WITH THE SEED: THE CARDS: each row of YtdkfkacipbaenaaDoorRows.lean that lists a variable, with what it lists TIED to the program's text (the seventh form; the later family's looks); each row that meets fmt, with fmt's text TOLD by the authors' own Lean function (tested against real Go, not proved from fmt's source: count such statements apart). THE CARD IS WHAT COUNTS. Prove the row's statement (the work); the ties are given (YtdkfkacipbaenaaDoorTie.lean); close each card by the builder's one call (the guide's Derived/Test/ToyasCard.lean, 'card_holds'). Laid BY PROGRAM, IN A SANDBOX (cutbox-door.mjs). By AI agents, Wed Nov 11 2026. No macro, syntax, notation, axiom, sorry.
-/
import Derived.Test.YtdkfkacipbaenaaDoorRows
import GoSem.ClaimSeven
namespace Go.Proofs.YtdkfkacipbaenaaDoor
namespace Rows

/-- THE TIED CARD OF 'watchmanlaw22.TallyDoes'. -/
def tallyDoesCard : Claim7 := { stood := { row := tallyDoesRow, standIns := [], harness := (true, "611c7619fb0c0fa0306279a71708d9d905a37401711727a85a432670b8132ec3"), looks := false }, kinds := [], alts := [], laidByText := true, laidKinds := [.data, .data], laidTests := true, laidLooks := .later }
def TallyDoesCardSaid : Prop := Claim7.holds Tryd.pinned (.plain (OpenSpec.ofChange tallyDoesSpec)) tallyDoesCard

/-- THE TIED CARD OF 'watchmanlaw22.TallyAdds'. -/
def tallyAddsCard : Claim7 := { stood := { row := tallyAddsRow, standIns := [], harness := (true, "611c7619fb0c0fa0306279a71708d9d905a37401711727a85a432670b8132ec3"), looks := false }, kinds := [], alts := [], laidByText := true, laidKinds := [.data, .data], laidTests := true, laidLooks := .later }
def TallyAddsCardSaid : Prop := Claim7.holds Tryd.pinned (.plain (OpenSpec.ofChange tallyAddsSpec)) tallyAddsCard

/-- THE TIED CARD OF 'watchmanlaw22.TallyMeets'. -/
def tallyMeetsCard : Claim7 := { stood := { row := tallyMeetsRow, standIns := [], harness := (true, "611c7619fb0c0fa0306279a71708d9d905a37401711727a85a432670b8132ec3"), looks := false }, kinds := [], alts := [], laidByText := true, laidKinds := [.data, .data], laidTests := true, laidLooks := .later }
def TallyMeetsCardSaid : Prop := Claim7.holds Tryd.pinned (.plain (OpenSpec.ofChange tallyMeetsSpec)) tallyMeetsCard

/-- THE TIED CARD OF 'watchmanlaw22.TallyReached'. -/
def tallyReachedCard : Claim7 := { stood := { row := tallyReachedRow, standIns := [], harness := (true, "611c7619fb0c0fa0306279a71708d9d905a37401711727a85a432670b8132ec3"), looks := false }, kinds := [], alts := [], laidByText := true, laidKinds := [.data, .data], laidTests := true, laidLooks := .later }
def TallyReachedCardSaid : Prop := Claim7.holds Tryd.pinned (.plain (OpenSpec.ofChange tallyReachedSpec)) tallyReachedCard

/-- THE TIED CARD OF 'watchmanlaw22.TallyShare'. -/
def tallyShareCard : Claim7 := { stood := { row := tallyShareRow, standIns := [], harness := (true, "611c7619fb0c0fa0306279a71708d9d905a37401711727a85a432670b8132ec3"), looks := false }, kinds := [], alts := [], laidByText := true, laidKinds := [.data, .data], laidTests := true, laidLooks := .later }
def TallyShareCardSaid : Prop := Claim7.holds Tryd.pinned (.plain (OpenSpec.ofChange tallyShareSpec)) tallyShareCard

/-- THE SECOND FORM's CARD OF 'watchmanlaw22.TallyDoes'. -/
def tallyDoesUptoCard : Claim7 := { stood := { row := tallyDoesUptoRow, standIns := [], harness := (true, "611c7619fb0c0fa0306279a71708d9d905a37401711727a85a432670b8132ec3"), looks := false }, kinds := [], alts := [], laidByText := true, laidKinds := [.data, .data], laidTests := true, laidLooks := .later }
def TallyDoesUptoCardSaid : Prop := Claim7.holds Tryd.pinned (.plain (OpenSpec.upto tallyDoesSpec)) tallyDoesUptoCard

/-- THE SECOND FORM's CARD OF 'watchmanlaw22.TallyAdds'. -/
def tallyAddsUptoCard : Claim7 := { stood := { row := tallyAddsUptoRow, standIns := [], harness := (true, "611c7619fb0c0fa0306279a71708d9d905a37401711727a85a432670b8132ec3"), looks := false }, kinds := [], alts := [], laidByText := true, laidKinds := [.data, .data], laidTests := true, laidLooks := .later }
def TallyAddsUptoCardSaid : Prop := Claim7.holds Tryd.pinned (.plain (OpenSpec.upto tallyAddsSpec)) tallyAddsUptoCard

/-- THE SECOND FORM's CARD OF 'watchmanlaw22.TallyMeets'. -/
def tallyMeetsUptoCard : Claim7 := { stood := { row := tallyMeetsUptoRow, standIns := [], harness := (true, "611c7619fb0c0fa0306279a71708d9d905a37401711727a85a432670b8132ec3"), looks := false }, kinds := [], alts := [], laidByText := true, laidKinds := [.data, .data], laidTests := true, laidLooks := .later }
def TallyMeetsUptoCardSaid : Prop := Claim7.holds Tryd.pinned (.plain (OpenSpec.upto tallyMeetsSpec)) tallyMeetsUptoCard

/-- THE SECOND FORM's CARD OF 'watchmanlaw22.TallyReached'. -/
def tallyReachedUptoCard : Claim7 := { stood := { row := tallyReachedUptoRow, standIns := [], harness := (true, "611c7619fb0c0fa0306279a71708d9d905a37401711727a85a432670b8132ec3"), looks := false }, kinds := [], alts := [], laidByText := true, laidKinds := [.data, .data], laidTests := true, laidLooks := .later }
def TallyReachedUptoCardSaid : Prop := Claim7.holds Tryd.pinned (.plain (OpenSpec.upto tallyReachedSpec)) tallyReachedUptoCard

/-- THE SECOND FORM's CARD OF 'watchmanlaw22.TallyShare'. -/
def tallyShareUptoCard : Claim7 := { stood := { row := tallyShareUptoRow, standIns := [], harness := (true, "611c7619fb0c0fa0306279a71708d9d905a37401711727a85a432670b8132ec3"), looks := false }, kinds := [], alts := [], laidByText := true, laidKinds := [.data, .data], laidTests := true, laidLooks := .later }
def TallyShareUptoCardSaid : Prop := Claim7.holds Tryd.pinned (.plain (OpenSpec.upto tallyShareSpec)) tallyShareUptoCard
end Rows
end Go.Proofs.YtdkfkacipbaenaaDoor
