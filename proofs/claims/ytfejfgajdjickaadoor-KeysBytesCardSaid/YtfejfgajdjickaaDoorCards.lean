/-
  DERIVED. GIVEN WITH THE SEED: THE CARDS: each row of YtfejfgajdjickaaDoorRows.lean that lists a variable, with what it lists TIED to the program's text (the seventh form; the later family's looks); each row that meets fmt, with fmt's text TOLD by the authors' own Lean function (tested against real Go, not proved from fmt's source: count such statements apart). THE CARD IS WHAT COUNTS. Prove the row's statement (the work); the ties are given (YtfejfgajdjickaaDoorTie.lean); close each card by the builder's one call (the guide's Derived/Test/ToyasCard.lean, 'card_holds'). Laid BY PROGRAM, IN A SANDBOX (cutbox-door.mjs). By AI agents, Wed Nov 11 2026. No macro, syntax, notation, axiom, sorry.
-/
import Derived.Test.YtfejfgajdjickaaDoorRows
import GoSem.ClaimSeven
namespace Go.Proofs.YtfejfgajdjickaaDoor
namespace Rows

/-- THE TIED CARD OF 'lyceumlaw13.KeysBytes'. -/
def keysBytesCard : Claim7 := { stood := { row := keysBytesRow, standIns := [], harness := (true, "f3847aa9aa45861afb26f32d8f87b5c685d27eb35135b23860d41557e1a3f173"), looks := false }, kinds := [], alts := [], laidByText := true, laidKinds := [.data, .pinned], laidTests := true, laidLooks := .later }
def KeysBytesCardSaid : Prop := Claim7.holds Tryd.pinned (.plain (OpenSpec.ofChange keysBytesSpec)) keysBytesCard

/-- THE SECOND FORM's CARD OF 'lyceumlaw13.KeysBytes'. -/
def keysBytesUptoCard : Claim7 := { stood := { row := keysBytesUptoRow, standIns := [], harness := (true, "f3847aa9aa45861afb26f32d8f87b5c685d27eb35135b23860d41557e1a3f173"), looks := false }, kinds := [], alts := [], laidByText := true, laidKinds := [.data, .pinned], laidTests := true, laidLooks := .later }
def KeysBytesUptoCardSaid : Prop := Claim7.holds Tryd.pinned (.plain (OpenSpec.upto keysBytesSpec)) keysBytesUptoCard
end Rows
end Go.Proofs.YtfejfgajdjickaaDoor
