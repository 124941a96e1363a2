/-
  No cell of these rows narrows 'for every input' (looked for: loops, veiled, ifaces, maps, wideKeys, modest, calm, conditions, laid).
  DERIVED. THE GIVEN ROWS OF THIS SEAT. 5 by the template 'for every input the law returns true; each argument reads behind the call as it read before'; 0 by the template 'total and deterministic' (their statements: YtgbpmefiafoliaaTotals.lean).
  GIVEN WITH THE SEED: the statements are not yours to turn. If you find one false, say at which input.
  Laid BY PROGRAM, IN A SANDBOX (cutbox-rows.mjs): the forced cells as the released guide's own fill.sh prints them over the translation 52ce0687da368aa6… (all of the seat's roots in one cut). By AI agents, Wed Nov 11 2026. No macro, syntax, notation, axiom, sorry.
-/
import Derived.Test.YtgbpmefiafoliaaChecked
import GoSem.Claim
import GoSem.ClaimJoined
import GoSem.ClaimMapViews
import Derived.JoinedTies
import Derived.KernelRfl
namespace Go.Proofs.Ytgbpmefiafoliaa
/- THE CELL 'sum', in the pinned program and in every row, IS THE sha256 OF THE DUMP (.gsa) THAT YtgbpmefiafoliaaProg.lean LOADS. Nothing in Lean hashes anything: it is a label: what it is worth is what the hold of that sum in a sandbox is worth. -/
noncomputable def Try.pinned : Pinned := { name := "ytgbpmefiafoliaa", sum := "52ce0687da368aa66824dd216317a824c230c18afd7bbba0d58b68167a707b97", checked := Try.checked }
namespace Rows
def none {H : Type} : Left H := { results := [], args := [] }

/-- 'lyceumlaw07.EscapeCounts': WHATEVER THE INPUT: true; the input reads as it did. -/
def escapeCountsSpec : ChangeSpec := { name := "escapeCounts", fn := fun _ => fun
  | [d] => { results := [.lit (.bool true)], args := [d] }
  | _ => none }
def escapeCountsRow : OpenClaim := { program := "ytgbpmefiafoliaa", sum := "52ce0687da368aa66824dd216317a824c230c18afd7bbba0d58b68167a707b97", func := "lyceum/lyceumlaw07.EscapeCounts", spec := "escapeCounts", apart := false }
def EscapeCountsSaid : Prop := escapeCountsRow.holds Try.pinned (OpenSpec.ofChange escapeCountsSpec)

/-- ITS FALSE NEIGHBOUR: 'it returns false'. Refute it at one input. -/
def escapeCountsWrong : ChangeSpec := { name := "escapeCounts", fn := fun _ => fun
  | [d] => { results := [.lit (.bool false)], args := [d] }
  | _ => none }
def EscapeCountsWrongFalsely : Prop := escapeCountsRow.holds Try.pinned (OpenSpec.ofChange escapeCountsWrong)

/-- 'lyceumlaw07.EscapeParted': WHATEVER THE INPUT: true; the input reads as it did. -/
def escapePartedSpec : ChangeSpec := { name := "escapeParted", fn := fun _ => fun
  | [d1, d2] => { results := [.lit (.bool true)], args := [d1, d2] }
  | _ => none }
def escapePartedRow : OpenClaim := { program := "ytgbpmefiafoliaa", sum := "52ce0687da368aa66824dd216317a824c230c18afd7bbba0d58b68167a707b97", func := "lyceum/lyceumlaw07.EscapeParted", spec := "escapeParted", apart := false }
def EscapePartedSaid : Prop := escapePartedRow.holds Try.pinned (OpenSpec.ofChange escapePartedSpec)

/-- ITS FALSE NEIGHBOUR: 'it returns false'. Refute it at one input. -/
def escapePartedWrong : ChangeSpec := { name := "escapeParted", fn := fun _ => fun
  | [d1, d2] => { results := [.lit (.bool false)], args := [d1, d2] }
  | _ => none }
def EscapePartedWrongFalsely : Prop := escapePartedRow.holds Try.pinned (OpenSpec.ofChange escapePartedWrong)

/-- 'lyceumlaw07.EscapeEnds': WHATEVER THE INPUT: true; the input reads as it did. -/
def escapeEndsSpec : ChangeSpec := { name := "escapeEnds", fn := fun _ => fun
  | [d1, d2] => { results := [.lit (.bool true)], args := [d1, d2] }
  | _ => none }
def escapeEndsRow : OpenClaim := { program := "ytgbpmefiafoliaa", sum := "52ce0687da368aa66824dd216317a824c230c18afd7bbba0d58b68167a707b97", func := "lyceum/lyceumlaw07.EscapeEnds", spec := "escapeEnds", apart := false }
def EscapeEndsSaid : Prop := escapeEndsRow.holds Try.pinned (OpenSpec.ofChange escapeEndsSpec)

/-- ITS FALSE NEIGHBOUR: 'it returns false'. Refute it at one input. -/
def escapeEndsWrong : ChangeSpec := { name := "escapeEnds", fn := fun _ => fun
  | [d1, d2] => { results := [.lit (.bool false)], args := [d1, d2] }
  | _ => none }
def EscapeEndsWrongFalsely : Prop := escapeEndsRow.holds Try.pinned (OpenSpec.ofChange escapeEndsWrong)

/-- 'lyceumlaw07.EscapeText': WHATEVER THE INPUT: true; the input reads as it did. -/
def escapeTextSpec : ChangeSpec := { name := "escapeText", fn := fun _ => fun
  | [d1, d2] => { results := [.lit (.bool true)], args := [d1, d2] }
  | _ => none }
def escapeTextRow : OpenClaim := { program := "ytgbpmefiafoliaa", sum := "52ce0687da368aa66824dd216317a824c230c18afd7bbba0d58b68167a707b97", func := "lyceum/lyceumlaw07.EscapeText", spec := "escapeText", apart := false }
def EscapeTextSaid : Prop := escapeTextRow.holds Try.pinned (OpenSpec.ofChange escapeTextSpec)

/-- ITS FALSE NEIGHBOUR: 'it returns false'. Refute it at one input. -/
def escapeTextWrong : ChangeSpec := { name := "escapeText", fn := fun _ => fun
  | [d1, d2] => { results := [.lit (.bool false)], args := [d1, d2] }
  | _ => none }
def EscapeTextWrongFalsely : Prop := escapeTextRow.holds Try.pinned (OpenSpec.ofChange escapeTextWrong)

/-- 'lyceumlaw07.EscapeNumbers': WHATEVER THE INPUT: true; the input reads as it did. -/
def escapeNumbersSpec : ChangeSpec := { name := "escapeNumbers", fn := fun _ => fun
  | [d1, d2] => { results := [.lit (.bool true)], args := [d1, d2] }
  | _ => none }
def escapeNumbersRow : OpenClaim := { program := "ytgbpmefiafoliaa", sum := "52ce0687da368aa66824dd216317a824c230c18afd7bbba0d58b68167a707b97", func := "lyceum/lyceumlaw07.EscapeNumbers", spec := "escapeNumbers", apart := false }
def EscapeNumbersSaid : Prop := escapeNumbersRow.holds Try.pinned (OpenSpec.ofChange escapeNumbersSpec)

/-- ITS FALSE NEIGHBOUR: 'it returns false'. Refute it at one input. -/
def escapeNumbersWrong : ChangeSpec := { name := "escapeNumbers", fn := fun _ => fun
  | [d1, d2] => { results := [.lit (.bool false)], args := [d1, d2] }
  | _ => none }
def EscapeNumbersWrongFalsely : Prop := escapeNumbersRow.holds Try.pinned (OpenSpec.ofChange escapeNumbersWrong)

/- THE SECOND FORM. 'bulk': how many values and letters a reading holds, each counted each time it is reached (what is shared counts as often as it is met; a slice's spare places count too). A statement '..UptoSaid' is the law's where the arguments, and the package variables that the reading takes, are together of bulk at most 1048576: NARROWER than '..Said'. Prove '..Said' where nothing that the law and all that it calls make is longer than what came in: it says more and counts as full. Else prove '..UptoSaid'. A law counts once. -/
mutual
def uptoBulk {H : Type} : DataW H → Nat
  | .lit (.string bytes) => bytes.length + 1
  | .lit _ => 1
  | .nil => 1
  | .ptr d => uptoBulk d + 1
  | .slice elems spare => uptoBulkAll elems + uptoBulkAll spare + 1
  | .agg parts => uptoBulkAll parts + 1
  | .iface _ d => uptoBulk d + 1
  | .map entries => uptoBulkEntries entries + 1
  | .held _ => 1
def uptoBulkAll {H : Type} : List (DataW H) → Nat
  | [] => 0
  | d :: r => uptoBulk d + uptoBulkAll r
def uptoBulkEntries {H : Type} : List (Lit × DataW H) → Nat
  | [] => 0
  | x :: r => uptoBulkEntry x + uptoBulkEntries r
def uptoBulkEntry {H : Type} : Lit × DataW H → Nat
  | (.string bytes, d) => bytes.length + uptoBulk d + 1
  | (_, d) => uptoBulk d + 1
 end
def uptoSmall : (H : Type) → List (DataW H) → Bool := fun _ ds => decide (uptoBulkAll ds ≤ 1048576)
def OpenSpec.upto (s : _root_.Go.ChangeSpec) : _root_.Go.OpenSpec := { _root_.Go.OpenSpec.ofChange s with cond := some uptoSmall }

/-- 'lyceumlaw07.EscapeCounts', WHERE WHAT IT READS IS OF BULK AT MOST 1048576: true; the input reads as it did. -/
def escapeCountsUptoRow : OpenClaim := { program := "ytgbpmefiafoliaa", sum := "52ce0687da368aa66824dd216317a824c230c18afd7bbba0d58b68167a707b97", func := "lyceum/lyceumlaw07.EscapeCounts", spec := "escapeCounts", apart := false, narrowed := true }
def EscapeCountsUptoSaid : Prop := escapeCountsUptoRow.holds Try.pinned (OpenSpec.upto escapeCountsSpec)

/-- 'lyceumlaw07.EscapeParted', WHERE WHAT IT READS IS OF BULK AT MOST 1048576: true; the input reads as it did. -/
def escapePartedUptoRow : OpenClaim := { program := "ytgbpmefiafoliaa", sum := "52ce0687da368aa66824dd216317a824c230c18afd7bbba0d58b68167a707b97", func := "lyceum/lyceumlaw07.EscapeParted", spec := "escapeParted", apart := false, narrowed := true }
def EscapePartedUptoSaid : Prop := escapePartedUptoRow.holds Try.pinned (OpenSpec.upto escapePartedSpec)

/-- 'lyceumlaw07.EscapeEnds', WHERE WHAT IT READS IS OF BULK AT MOST 1048576: true; the input reads as it did. -/
def escapeEndsUptoRow : OpenClaim := { program := "ytgbpmefiafoliaa", sum := "52ce0687da368aa66824dd216317a824c230c18afd7bbba0d58b68167a707b97", func := "lyceum/lyceumlaw07.EscapeEnds", spec := "escapeEnds", apart := false, narrowed := true }
def EscapeEndsUptoSaid : Prop := escapeEndsUptoRow.holds Try.pinned (OpenSpec.upto escapeEndsSpec)

/-- 'lyceumlaw07.EscapeText', WHERE WHAT IT READS IS OF BULK AT MOST 1048576: true; the input reads as it did. -/
def escapeTextUptoRow : OpenClaim := { program := "ytgbpmefiafoliaa", sum := "52ce0687da368aa66824dd216317a824c230c18afd7bbba0d58b68167a707b97", func := "lyceum/lyceumlaw07.EscapeText", spec := "escapeText", apart := false, narrowed := true }
def EscapeTextUptoSaid : Prop := escapeTextUptoRow.holds Try.pinned (OpenSpec.upto escapeTextSpec)

/-- 'lyceumlaw07.EscapeNumbers', WHERE WHAT IT READS IS OF BULK AT MOST 1048576: true; the input reads as it did. -/
def escapeNumbersUptoRow : OpenClaim := { program := "ytgbpmefiafoliaa", sum := "52ce0687da368aa66824dd216317a824c230c18afd7bbba0d58b68167a707b97", func := "lyceum/lyceumlaw07.EscapeNumbers", spec := "escapeNumbers", apart := false, narrowed := true }
def EscapeNumbersUptoSaid : Prop := escapeNumbersUptoRow.holds Try.pinned (OpenSpec.upto escapeNumbersSpec)

end Rows
end Go.Proofs.Ytgbpmefiafoliaa
