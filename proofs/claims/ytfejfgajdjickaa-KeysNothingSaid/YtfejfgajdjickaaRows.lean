/-
  No cell of these rows narrows 'for every input' (looked for: loops, veiled, ifaces, maps, wideKeys, modest, calm, conditions, laid).
  DERIVED. THE GIVEN ROWS OF THIS SEAT. 2 by the template 'for every input the law returns true; each argument reads behind the call as it read before'; 0 by the template 'total and deterministic' (their statements: YtfejfgajdjickaaTotals.lean).
  GIVEN WITH THE SEED: the statements are not yours to turn. If you find one false, say at which input.
  Laid BY PROGRAM, IN A SANDBOX (cutbox-rows.mjs): the forced cells as the released guide's own fill.sh prints them over the translation 609a7d7ebcebe24f… (all of the seat's roots in one cut). By AI agents, Wed Nov 11 2026. No macro, syntax, notation, axiom, sorry.
-/
import Derived.Test.YtfejfgajdjickaaChecked
import GoSem.Claim
import GoSem.ClaimJoined
import GoSem.ClaimMapViews
import Derived.JoinedTies
import Derived.KernelRfl
namespace Go.Proofs.Ytfejfgajdjickaa
/- THE CELL 'sum', in the pinned program and in every row, IS THE sha256 OF THE DUMP (.gsa) THAT YtfejfgajdjickaaProg.lean LOADS. Nothing in Lean hashes anything: it is a label: what it is worth is what the hold of that sum in a sandbox is worth. -/
noncomputable def Try.pinned : Pinned := { name := "ytfejfgajdjickaa", sum := "609a7d7ebcebe24f13f8feb28d7af3c980bdf71b846b10d13463bc44ca4dff8b", checked := Try.checked }
namespace Rows
def none {H : Type} : Left H := { results := [], args := [] }

/-- 'lyceumlaw13.KeysParted': WHATEVER THE INPUT: true; the input reads as it did. -/
def keysPartedSpec : ChangeSpec := { name := "keysParted", fn := fun _ => fun
  | [d1, d2] => { results := [.lit (.bool true)], args := [d1, d2] }
  | _ => none }
def keysPartedRow : OpenClaim := { program := "ytfejfgajdjickaa", sum := "609a7d7ebcebe24f13f8feb28d7af3c980bdf71b846b10d13463bc44ca4dff8b", func := "lyceum/lyceumlaw13.KeysParted", spec := "keysParted", inPlace := ["internal/bytealg.IndexByteString"], unfollowed := true, recurses := true, apart := false }
def KeysPartedSaid : Prop := keysPartedRow.holds Try.pinned (OpenSpec.ofChange keysPartedSpec)

/-- ITS FALSE NEIGHBOUR: 'it returns false'. Refute it at one input. -/
def keysPartedWrong : ChangeSpec := { name := "keysParted", fn := fun _ => fun
  | [d1, d2] => { results := [.lit (.bool false)], args := [d1, d2] }
  | _ => none }
def KeysPartedWrongFalsely : Prop := keysPartedRow.holds Try.pinned (OpenSpec.ofChange keysPartedWrong)

/-- 'lyceumlaw13.KeysNothing': WHATEVER THE INPUT: true; the input reads as it did. -/
def keysNothingSpec : ChangeSpec := { name := "keysNothing", fn := fun _ => fun
  | [d] => { results := [.lit (.bool true)], args := [d] }
  | _ => none }
def keysNothingRow : OpenClaim := { program := "ytfejfgajdjickaa", sum := "609a7d7ebcebe24f13f8feb28d7af3c980bdf71b846b10d13463bc44ca4dff8b", func := "lyceum/lyceumlaw13.KeysNothing", spec := "keysNothing", inPlace := ["internal/bytealg.IndexByteString"], unfollowed := true, recurses := true, apart := false }
def KeysNothingSaid : Prop := keysNothingRow.holds Try.pinned (OpenSpec.ofChange keysNothingSpec)

/-- ITS FALSE NEIGHBOUR: 'it returns false'. Refute it at one input. -/
def keysNothingWrong : ChangeSpec := { name := "keysNothing", fn := fun _ => fun
  | [d] => { results := [.lit (.bool false)], args := [d] }
  | _ => none }
def KeysNothingWrongFalsely : Prop := keysNothingRow.holds Try.pinned (OpenSpec.ofChange keysNothingWrong)

/- THE SECOND FORM. 'bulk': how many values and letters a reading holds, each counted each time it is reached (what is shared counts as often as it is met; a slice's spare places count too). A statement '..UptoSaid' is the law's where the arguments, and the package variables that the reading takes, are together of bulk at most 1048576: NARROWER than '..Said'. Prove '..Said' where nothing that the law and all that it calls make is longer than what came in: it says more and counts as full. Else prove '..UptoSaid'. A law counts once. -/
mutual
def uptoBulk {H : Type} : DataW H → Nat
  | .lit (.string bytes) => bytes.length + 1
  | .lit _ => 1
  | .nil => 1
  | .ptr d => uptoBulk d + 1
  | .slice elems spare => uptoBulkAll elems + uptoBulkAll spare + 1
  | .agg parts => uptoBulkAll parts + 1
  | .iface _ d => uptoBulk d + 1
  | .map entries => uptoBulkEntries entries + 1
  | .held _ => 1
def uptoBulkAll {H : Type} : List (DataW H) → Nat
  | [] => 0
  | d :: r => uptoBulk d + uptoBulkAll r
def uptoBulkEntries {H : Type} : List (Lit × DataW H) → Nat
  | [] => 0
  | x :: r => uptoBulkEntry x + uptoBulkEntries r
def uptoBulkEntry {H : Type} : Lit × DataW H → Nat
  | (.string bytes, d) => bytes.length + uptoBulk d + 1
  | (_, d) => uptoBulk d + 1
 end
def uptoSmall : (H : Type) → List (DataW H) → Bool := fun _ ds => decide (uptoBulkAll ds ≤ 1048576)
def OpenSpec.upto (s : _root_.Go.ChangeSpec) : _root_.Go.OpenSpec := { _root_.Go.OpenSpec.ofChange s with cond := some uptoSmall }

/-- 'lyceumlaw13.KeysParted', WHERE WHAT IT READS IS OF BULK AT MOST 1048576: true; the input reads as it did. -/
def keysPartedUptoRow : OpenClaim := { program := "ytfejfgajdjickaa", sum := "609a7d7ebcebe24f13f8feb28d7af3c980bdf71b846b10d13463bc44ca4dff8b", func := "lyceum/lyceumlaw13.KeysParted", spec := "keysParted", inPlace := ["internal/bytealg.IndexByteString"], unfollowed := true, recurses := true, apart := false, narrowed := true }
def KeysPartedUptoSaid : Prop := keysPartedUptoRow.holds Try.pinned (OpenSpec.upto keysPartedSpec)

/-- 'lyceumlaw13.KeysNothing', WHERE WHAT IT READS IS OF BULK AT MOST 1048576: true; the input reads as it did. -/
def keysNothingUptoRow : OpenClaim := { program := "ytfejfgajdjickaa", sum := "609a7d7ebcebe24f13f8feb28d7af3c980bdf71b846b10d13463bc44ca4dff8b", func := "lyceum/lyceumlaw13.KeysNothing", spec := "keysNothing", inPlace := ["internal/bytealg.IndexByteString"], unfollowed := true, recurses := true, apart := false, narrowed := true }
def KeysNothingUptoSaid : Prop := keysNothingUptoRow.holds Try.pinned (OpenSpec.upto keysNothingSpec)

end Rows
end Go.Proofs.Ytfejfgajdjickaa
