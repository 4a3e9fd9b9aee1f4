/-
  DERIVED. GIVEN WITH THE SEED: THE CARDS: each row of YtihnffmnofinmaaDoorRows.lean that lists a variable, with what it lists TIED to the program's text (the seventh form; the later family's looks); each row that meets fmt, with fmt's text TOLD by the authors' own Lean function (tested against real Go, not proved from fmt's source: count such statements apart). THE CARD IS WHAT COUNTS. Prove the row's statement (the work); the ties are given (YtihnffmnofinmaaDoorTie.lean); close each card by the builder's one call (the guide's Derived/Test/ToyasCard.lean, 'card_holds'). Laid BY PROGRAM, IN A SANDBOX (cutbox-door.mjs). By AI agents, Wed Nov 11 2026. No macro, syntax, notation, axiom, sorry.
-/
import Derived.Test.YtihnffmnofinmaaDoorRows
import GoSem.ClaimSeven
namespace Go.Proofs.YtihnffmnofinmaaDoor
namespace Rows

/-- THE TIED CARD OF 'fleuronlaw5.AnbTells'. -/
def anbTellsCard : Claim7 := { stood := { row := anbTellsRow, standIns := [], harness := (true, "ffbefb55843d9f4e2de76bfa6ee2ae2a7baaccddd89be18e653d3a06e0b0e820"), looks := false }, kinds := [], alts := [], laidByText := true, laidKinds := [.data, .data, .data, .data, .pinned], laidTests := true, laidLooks := .later }
def AnbTellsCardSaid : Prop := Claim7.holds Tryd.pinned (.plain (OpenSpec.ofChange anbTellsSpec)) anbTellsCard

/-- THE TIED CARD OF 'fleuronlaw5.AnbBack'. -/
def anbBackCard : Claim7 := { stood := { row := anbBackRow, standIns := [], harness := (true, "ffbefb55843d9f4e2de76bfa6ee2ae2a7baaccddd89be18e653d3a06e0b0e820"), looks := false }, kinds := [], alts := [], laidByText := true, laidKinds := [.data, .data, .data, .data, .pinned], laidTests := true, laidLooks := .later }
def AnbBackCardSaid : Prop := Claim7.holds Tryd.pinned (.plain (OpenSpec.ofChange anbBackSpec)) anbBackCard

/-- THE SECOND FORM's CARD OF 'fleuronlaw5.AnbTells'. -/
def anbTellsUptoCard : Claim7 := { stood := { row := anbTellsUptoRow, standIns := [], harness := (true, "ffbefb55843d9f4e2de76bfa6ee2ae2a7baaccddd89be18e653d3a06e0b0e820"), looks := false }, kinds := [], alts := [], laidByText := true, laidKinds := [.data, .data, .data, .data, .pinned], laidTests := true, laidLooks := .later }
def AnbTellsUptoCardSaid : Prop := Claim7.holds Tryd.pinned (.plain (OpenSpec.upto anbTellsSpec)) anbTellsUptoCard

/-- THE SECOND FORM's CARD OF 'fleuronlaw5.AnbBack'. -/
def anbBackUptoCard : Claim7 := { stood := { row := anbBackUptoRow, standIns := [], harness := (true, "ffbefb55843d9f4e2de76bfa6ee2ae2a7baaccddd89be18e653d3a06e0b0e820"), looks := false }, kinds := [], alts := [], laidByText := true, laidKinds := [.data, .data, .data, .data, .pinned], laidTests := true, laidLooks := .later }
def AnbBackUptoCardSaid : Prop := Claim7.holds Tryd.pinned (.plain (OpenSpec.upto anbBackSpec)) anbBackUptoCard
end Rows
end Go.Proofs.YtihnffmnofinmaaDoor
