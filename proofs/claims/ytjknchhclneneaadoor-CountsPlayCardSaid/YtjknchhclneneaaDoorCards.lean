/-
  DERIVED. GIVEN WITH THE SEED: THE CARDS: each row of YtjknchhclneneaaDoorRows.lean that lists a variable, with what it lists TIED to the program's text (the seventh form; the later family's looks); each row that meets fmt, with fmt's text TOLD by the authors' own Lean function (tested against real Go, not proved from fmt's source: count such statements apart). THE CARD IS WHAT COUNTS. Prove the row's statement (the work); the ties are given (YtjknchhclneneaaDoorTie.lean); close each card by the builder's one call (the guide's Derived/Test/ToyasCard.lean, 'card_holds'). Laid BY PROGRAM, IN A SANDBOX (cutbox-door.mjs). By AI agents, Wed Nov 11 2026. No macro, syntax, notation, axiom, sorry.
-/
import Derived.Test.YtjknchhclneneaaDoorRows
import GoSem.ClaimSeven
namespace Go.Proofs.YtjknchhclneneaaDoor
namespace Rows

/-- THE TIED CARD OF 'spencelaw26.CountsPlay'. -/
def countsPlayCard : Claim7 := { stood := { row := countsPlayRow, standIns := [], harness := (true, "5c71dc6d904fa829986d71e00a8912522ec5eacffd7588bb20af2e335acced8c"), looks := false }, kinds := [], alts := [], laidByText := true, laidKinds := [.data, .data, .data], laidTests := true, laidLooks := .later }
def CountsPlayCardSaid : Prop := Claim7.holds Tryd.pinned (.plain (OpenSpec.ofChange countsPlaySpec)) countsPlayCard

/-- THE TIED CARD OF 'spencelaw26.CountsTurn'. -/
def countsTurnCard : Claim7 := { stood := { row := countsTurnRow, standIns := [], harness := (true, "5c71dc6d904fa829986d71e00a8912522ec5eacffd7588bb20af2e335acced8c"), looks := false }, kinds := [], alts := [], laidByText := true, laidKinds := [.data, .data, .data], laidTests := true, laidLooks := .later }
def CountsTurnCardSaid : Prop := Claim7.holds Tryd.pinned (.plain (OpenSpec.ofChange countsTurnSpec)) countsTurnCard

/-- THE SECOND FORM's CARD OF 'spencelaw26.CountsPlay'. -/
def countsPlayUptoCard : Claim7 := { stood := { row := countsPlayUptoRow, standIns := [], harness := (true, "5c71dc6d904fa829986d71e00a8912522ec5eacffd7588bb20af2e335acced8c"), looks := false }, kinds := [], alts := [], laidByText := true, laidKinds := [.data, .data, .data], laidTests := true, laidLooks := .later }
def CountsPlayUptoCardSaid : Prop := Claim7.holds Tryd.pinned (.plain (OpenSpec.upto countsPlaySpec)) countsPlayUptoCard

/-- THE SECOND FORM's CARD OF 'spencelaw26.CountsTurn'. -/
def countsTurnUptoCard : Claim7 := { stood := { row := countsTurnUptoRow, standIns := [], harness := (true, "5c71dc6d904fa829986d71e00a8912522ec5eacffd7588bb20af2e335acced8c"), looks := false }, kinds := [], alts := [], laidByText := true, laidKinds := [.data, .data, .data], laidTests := true, laidLooks := .later }
def CountsTurnUptoCardSaid : Prop := Claim7.holds Tryd.pinned (.plain (OpenSpec.upto countsTurnSpec)) countsTurnUptoCard
end Rows
end Go.Proofs.YtjknchhclneneaaDoor
