/-
  DERIVED. GIVEN WITH THE SEED: THE CARDS: each row of YtlfcaigofakkoaaDoorRows.lean that lists a variable, with what it lists TIED to the program's text (the seventh form; the later family's looks); each row that meets fmt, with fmt's text TOLD by the authors' own Lean function (tested against real Go, not proved from fmt's source: count such statements apart). THE CARD IS WHAT COUNTS. Prove the row's statement (the work); the ties are given (YtlfcaigofakkoaaDoorTie.lean); close each card by the builder's one call (the guide's Derived/Test/ToyasCard.lean, 'card_holds'). Laid BY PROGRAM, IN A SANDBOX (cutbox-door.mjs). By AI agents, Wed Nov 11 2026. No macro, syntax, notation, axiom, sorry.
-/
import Derived.Test.YtlfcaigofakkoaaDoorRows
import GoSem.ClaimSeven
namespace Go.Proofs.YtlfcaigofakkoaaDoor
namespace Rows

/-- THE TIED CARD OF 'tidepolelaw05.XorRound'. -/
def xorRoundCard : Claim7 := { stood := { row := xorRoundRow, standIns := [], harness := (true, "f5e7a27f4788aba1e5a9dcc7a6c556809705afe8d2a0cde3d41f415ce2372b91"), looks := false }, kinds := [], alts := [], laidByText := true, laidKinds := [.data], laidTests := true, laidLooks := .later }
def XorRoundCardSaid : Prop := Claim7.holds Tryd.pinned (.plain (OpenSpec.ofChange xorRoundSpec)) xorRoundCard

/-- THE TIED CARD OF 'tidepolelaw05.XorPuts'. -/
def xorPutsCard : Claim7 := { stood := { row := xorPutsRow, standIns := [], harness := (true, "f5e7a27f4788aba1e5a9dcc7a6c556809705afe8d2a0cde3d41f415ce2372b91"), looks := false }, kinds := [], alts := [], laidByText := true, laidKinds := [.data], laidTests := true, laidLooks := .later }
def XorPutsCardSaid : Prop := Claim7.holds Tryd.pinned (.plain (OpenSpec.ofChange xorPutsSpec)) xorPutsCard

/-- THE SECOND FORM's CARD OF 'tidepolelaw05.XorRound'. -/
def xorRoundUptoCard : Claim7 := { stood := { row := xorRoundUptoRow, standIns := [], harness := (true, "f5e7a27f4788aba1e5a9dcc7a6c556809705afe8d2a0cde3d41f415ce2372b91"), looks := false }, kinds := [], alts := [], laidByText := true, laidKinds := [.data], laidTests := true, laidLooks := .later }
def XorRoundUptoCardSaid : Prop := Claim7.holds Tryd.pinned (.plain (OpenSpec.upto xorRoundSpec)) xorRoundUptoCard

/-- THE SECOND FORM's CARD OF 'tidepolelaw05.XorPuts'. -/
def xorPutsUptoCard : Claim7 := { stood := { row := xorPutsUptoRow, standIns := [], harness := (true, "f5e7a27f4788aba1e5a9dcc7a6c556809705afe8d2a0cde3d41f415ce2372b91"), looks := false }, kinds := [], alts := [], laidByText := true, laidKinds := [.data], laidTests := true, laidLooks := .later }
def XorPutsUptoCardSaid : Prop := Claim7.holds Tryd.pinned (.plain (OpenSpec.upto xorPutsSpec)) xorPutsUptoCard
end Rows
end Go.Proofs.YtlfcaigofakkoaaDoor
