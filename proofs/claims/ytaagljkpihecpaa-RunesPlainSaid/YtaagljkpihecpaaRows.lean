/-
  No cell of these rows narrows 'for every input' (looked for: loops, veiled, ifaces, maps, wideKeys, modest, calm, conditions, laid).
  DERIVED. THE GIVEN ROWS OF THIS SEAT. 6 by the template 'for every input the law returns true; each argument reads behind the call as it read before'; 0 by the template 'total and deterministic' (their statements: YtaagljkpihecpaaTotals.lean).
  GIVEN WITH THE SEED: the statements are not yours to turn. If you find one false, say at which input.
  Laid BY PROGRAM, IN A SANDBOX (cutbox-rows.mjs): the forced cells as the released guide's own fill.sh prints them over the translation d6921337204852d4… (all of the seat's roots in one cut). By AI agents, Wed Nov 11 2026. No macro, syntax, notation, axiom, sorry.
-/
import Derived.Test.YtaagljkpihecpaaChecked
import GoSem.Claim
import GoSem.ClaimJoined
import GoSem.ClaimMapViews
import Derived.JoinedTies
import Derived.KernelRfl
namespace Go.Proofs.Ytaagljkpihecpaa
/- THE CELL 'sum', in the pinned program and in every row, IS THE sha256 OF THE DUMP (.gsa) THAT YtaagljkpihecpaaProg.lean LOADS. Nothing in Lean hashes anything: it is a label: what it is worth is what the hold of that sum in a sandbox is worth. -/
noncomputable def Try.pinned : Pinned := { name := "ytaagljkpihecpaa", sum := "d6921337204852d47b42f4dda3b9f053caa0d38d175ecc5c1a30cbf3cab289bc", checked := Try.checked }
namespace Rows
def none {H : Type} : Left H := { results := [], args := [] }

/-- 'lyceumlaw04.RunesFeed': WHATEVER THE INPUT: true; the input reads as it did. -/
def runesFeedSpec : ChangeSpec := { name := "runesFeed", fn := fun _ => fun
  | [d1, d2] => { results := [.lit (.bool true)], args := [d1, d2] }
  | _ => none }
def runesFeedRow : OpenClaim := { program := "ytaagljkpihecpaa", sum := "d6921337204852d47b42f4dda3b9f053caa0d38d175ecc5c1a30cbf3cab289bc", func := "lyceum/lyceumlaw04.RunesFeed", spec := "runesFeed", apart := false }
def RunesFeedSaid : Prop := runesFeedRow.holds Try.pinned (OpenSpec.ofChange runesFeedSpec)

/-- ITS FALSE NEIGHBOUR: 'it returns false'. Refute it at one input. -/
def runesFeedWrong : ChangeSpec := { name := "runesFeed", fn := fun _ => fun
  | [d1, d2] => { results := [.lit (.bool false)], args := [d1, d2] }
  | _ => none }
def RunesFeedWrongFalsely : Prop := runesFeedRow.holds Try.pinned (OpenSpec.ofChange runesFeedWrong)

/-- 'lyceumlaw04.RunesParted': WHATEVER THE INPUT: true; the input reads as it did. -/
def runesPartedSpec : ChangeSpec := { name := "runesParted", fn := fun _ => fun
  | [d1, d2, d3] => { results := [.lit (.bool true)], args := [d1, d2, d3] }
  | _ => none }
def runesPartedRow : OpenClaim := { program := "ytaagljkpihecpaa", sum := "d6921337204852d47b42f4dda3b9f053caa0d38d175ecc5c1a30cbf3cab289bc", func := "lyceum/lyceumlaw04.RunesParted", spec := "runesParted", apart := false }
def RunesPartedSaid : Prop := runesPartedRow.holds Try.pinned (OpenSpec.ofChange runesPartedSpec)

/-- ITS FALSE NEIGHBOUR: 'it returns false'. Refute it at one input. -/
def runesPartedWrong : ChangeSpec := { name := "runesParted", fn := fun _ => fun
  | [d1, d2, d3] => { results := [.lit (.bool false)], args := [d1, d2, d3] }
  | _ => none }
def RunesPartedWrongFalsely : Prop := runesPartedRow.holds Try.pinned (OpenSpec.ofChange runesPartedWrong)

/-- 'lyceumlaw04.RunesBack': WHATEVER THE INPUT: true; the input reads as it did. -/
def runesBackSpec : ChangeSpec := { name := "runesBack", fn := fun _ => fun
  | [d] => { results := [.lit (.bool true)], args := [d] }
  | _ => none }
def runesBackRow : OpenClaim := { program := "ytaagljkpihecpaa", sum := "d6921337204852d47b42f4dda3b9f053caa0d38d175ecc5c1a30cbf3cab289bc", func := "lyceum/lyceumlaw04.RunesBack", spec := "runesBack", apart := false }
def RunesBackSaid : Prop := runesBackRow.holds Try.pinned (OpenSpec.ofChange runesBackSpec)

/-- ITS FALSE NEIGHBOUR: 'it returns false'. Refute it at one input. -/
def runesBackWrong : ChangeSpec := { name := "runesBack", fn := fun _ => fun
  | [d] => { results := [.lit (.bool false)], args := [d] }
  | _ => none }
def RunesBackWrongFalsely : Prop := runesBackRow.holds Try.pinned (OpenSpec.ofChange runesBackWrong)

/-- 'lyceumlaw04.RunesClean': WHATEVER THE INPUT: true; the input reads as it did. -/
def runesCleanSpec : ChangeSpec := { name := "runesClean", fn := fun _ => fun
  | [d] => { results := [.lit (.bool true)], args := [d] }
  | _ => none }
def runesCleanRow : OpenClaim := { program := "ytaagljkpihecpaa", sum := "d6921337204852d47b42f4dda3b9f053caa0d38d175ecc5c1a30cbf3cab289bc", func := "lyceum/lyceumlaw04.RunesClean", spec := "runesClean", apart := false }
def RunesCleanSaid : Prop := runesCleanRow.holds Try.pinned (OpenSpec.ofChange runesCleanSpec)

/-- ITS FALSE NEIGHBOUR: 'it returns false'. Refute it at one input. -/
def runesCleanWrong : ChangeSpec := { name := "runesClean", fn := fun _ => fun
  | [d] => { results := [.lit (.bool false)], args := [d] }
  | _ => none }
def RunesCleanWrongFalsely : Prop := runesCleanRow.holds Try.pinned (OpenSpec.ofChange runesCleanWrong)

/-- 'lyceumlaw04.RunesTell': WHATEVER THE INPUT: true; the input reads as it did. -/
def runesTellSpec : ChangeSpec := { name := "runesTell", fn := fun _ => fun
  | [d1, d2, d3] => { results := [.lit (.bool true)], args := [d1, d2, d3] }
  | _ => none }
def runesTellRow : OpenClaim := { program := "ytaagljkpihecpaa", sum := "d6921337204852d47b42f4dda3b9f053caa0d38d175ecc5c1a30cbf3cab289bc", func := "lyceum/lyceumlaw04.RunesTell", spec := "runesTell", apart := false }
def RunesTellSaid : Prop := runesTellRow.holds Try.pinned (OpenSpec.ofChange runesTellSpec)

/-- ITS FALSE NEIGHBOUR: 'it returns false'. Refute it at one input. -/
def runesTellWrong : ChangeSpec := { name := "runesTell", fn := fun _ => fun
  | [d1, d2, d3] => { results := [.lit (.bool false)], args := [d1, d2, d3] }
  | _ => none }
def RunesTellWrongFalsely : Prop := runesTellRow.holds Try.pinned (OpenSpec.ofChange runesTellWrong)

/-- 'lyceumlaw04.RunesPlain': WHATEVER THE INPUT: true; the input reads as it did. -/
def runesPlainSpec : ChangeSpec := { name := "runesPlain", fn := fun _ => fun
  | [d1, d2, d3] => { results := [.lit (.bool true)], args := [d1, d2, d3] }
  | _ => none }
def runesPlainRow : OpenClaim := { program := "ytaagljkpihecpaa", sum := "d6921337204852d47b42f4dda3b9f053caa0d38d175ecc5c1a30cbf3cab289bc", func := "lyceum/lyceumlaw04.RunesPlain", spec := "runesPlain", apart := false }
def RunesPlainSaid : Prop := runesPlainRow.holds Try.pinned (OpenSpec.ofChange runesPlainSpec)

/-- ITS FALSE NEIGHBOUR: 'it returns false'. Refute it at one input. -/
def runesPlainWrong : ChangeSpec := { name := "runesPlain", fn := fun _ => fun
  | [d1, d2, d3] => { results := [.lit (.bool false)], args := [d1, d2, d3] }
  | _ => none }
def RunesPlainWrongFalsely : Prop := runesPlainRow.holds Try.pinned (OpenSpec.ofChange runesPlainWrong)

/- THE SECOND FORM. 'bulk': how many values and letters a reading holds, each counted each time it is reached (what is shared counts as often as it is met; a slice's spare places count too). A statement '..UptoSaid' is the law's where the arguments, and the package variables that the reading takes, are together of bulk at most 1048576: NARROWER than '..Said'. Prove '..Said' where nothing that the law and all that it calls make is longer than what came in: it says more and counts as full. Else prove '..UptoSaid'. A law counts once. -/
mutual
def uptoBulk {H : Type} : DataW H → Nat
  | .lit (.string bytes) => bytes.length + 1
  | .lit _ => 1
  | .nil => 1
  | .ptr d => uptoBulk d + 1
  | .slice elems spare => uptoBulkAll elems + uptoBulkAll spare + 1
  | .agg parts => uptoBulkAll parts + 1
  | .iface _ d => uptoBulk d + 1
  | .map entries => uptoBulkEntries entries + 1
  | .held _ => 1
def uptoBulkAll {H : Type} : List (DataW H) → Nat
  | [] => 0
  | d :: r => uptoBulk d + uptoBulkAll r
def uptoBulkEntries {H : Type} : List (Lit × DataW H) → Nat
  | [] => 0
  | x :: r => uptoBulkEntry x + uptoBulkEntries r
def uptoBulkEntry {H : Type} : Lit × DataW H → Nat
  | (.string bytes, d) => bytes.length + uptoBulk d + 1
  | (_, d) => uptoBulk d + 1
 end
def uptoSmall : (H : Type) → List (DataW H) → Bool := fun _ ds => decide (uptoBulkAll ds ≤ 1048576)
def OpenSpec.upto (s : _root_.Go.ChangeSpec) : _root_.Go.OpenSpec := { _root_.Go.OpenSpec.ofChange s with cond := some uptoSmall }

/-- 'lyceumlaw04.RunesFeed', WHERE WHAT IT READS IS OF BULK AT MOST 1048576: true; the input reads as it did. -/
def runesFeedUptoRow : OpenClaim := { program := "ytaagljkpihecpaa", sum := "d6921337204852d47b42f4dda3b9f053caa0d38d175ecc5c1a30cbf3cab289bc", func := "lyceum/lyceumlaw04.RunesFeed", spec := "runesFeed", apart := false, narrowed := true }
def RunesFeedUptoSaid : Prop := runesFeedUptoRow.holds Try.pinned (OpenSpec.upto runesFeedSpec)

/-- 'lyceumlaw04.RunesParted', WHERE WHAT IT READS IS OF BULK AT MOST 1048576: true; the input reads as it did. -/
def runesPartedUptoRow : OpenClaim := { program := "ytaagljkpihecpaa", sum := "d6921337204852d47b42f4dda3b9f053caa0d38d175ecc5c1a30cbf3cab289bc", func := "lyceum/lyceumlaw04.RunesParted", spec := "runesParted", apart := false, narrowed := true }
def RunesPartedUptoSaid : Prop := runesPartedUptoRow.holds Try.pinned (OpenSpec.upto runesPartedSpec)

/-- 'lyceumlaw04.RunesBack', WHERE WHAT IT READS IS OF BULK AT MOST 1048576: true; the input reads as it did. -/
def runesBackUptoRow : OpenClaim := { program := "ytaagljkpihecpaa", sum := "d6921337204852d47b42f4dda3b9f053caa0d38d175ecc5c1a30cbf3cab289bc", func := "lyceum/lyceumlaw04.RunesBack", spec := "runesBack", apart := false, narrowed := true }
def RunesBackUptoSaid : Prop := runesBackUptoRow.holds Try.pinned (OpenSpec.upto runesBackSpec)

/-- 'lyceumlaw04.RunesClean', WHERE WHAT IT READS IS OF BULK AT MOST 1048576: true; the input reads as it did. -/
def runesCleanUptoRow : OpenClaim := { program := "ytaagljkpihecpaa", sum := "d6921337204852d47b42f4dda3b9f053caa0d38d175ecc5c1a30cbf3cab289bc", func := "lyceum/lyceumlaw04.RunesClean", spec := "runesClean", apart := false, narrowed := true }
def RunesCleanUptoSaid : Prop := runesCleanUptoRow.holds Try.pinned (OpenSpec.upto runesCleanSpec)

/-- 'lyceumlaw04.RunesTell', WHERE WHAT IT READS IS OF BULK AT MOST 1048576: true; the input reads as it did. -/
def runesTellUptoRow : OpenClaim := { program := "ytaagljkpihecpaa", sum := "d6921337204852d47b42f4dda3b9f053caa0d38d175ecc5c1a30cbf3cab289bc", func := "lyceum/lyceumlaw04.RunesTell", spec := "runesTell", apart := false, narrowed := true }
def RunesTellUptoSaid : Prop := runesTellUptoRow.holds Try.pinned (OpenSpec.upto runesTellSpec)

/-- 'lyceumlaw04.RunesPlain', WHERE WHAT IT READS IS OF BULK AT MOST 1048576: true; the input reads as it did. -/
def runesPlainUptoRow : OpenClaim := { program := "ytaagljkpihecpaa", sum := "d6921337204852d47b42f4dda3b9f053caa0d38d175ecc5c1a30cbf3cab289bc", func := "lyceum/lyceumlaw04.RunesPlain", spec := "runesPlain", apart := false, narrowed := true }
def RunesPlainUptoSaid : Prop := runesPlainUptoRow.holds Try.pinned (OpenSpec.upto runesPlainSpec)

end Rows
end Go.Proofs.Ytaagljkpihecpaa
