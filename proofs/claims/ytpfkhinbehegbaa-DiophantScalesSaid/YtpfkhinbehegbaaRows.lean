/-
  No cell of these rows narrows 'for every input' (looked for: loops, veiled, ifaces, maps, wideKeys, modest, calm, conditions, laid).
  DERIVED. THE GIVEN ROWS OF THIS SEAT. 8 by the template 'for every input the law returns true; each argument reads behind the call as it read before'; 0 by the template 'total and deterministic' (their statements: YtpfkhinbehegbaaTotals.lean).
  GIVEN WITH THE SEED: the statements are not yours to turn. If you find one false, say at which input.
  Laid BY PROGRAM, IN A SANDBOX (cutbox-rows.mjs): the forced cells as the released guide's own fill.sh prints them over the translation ea0522df36abb279… (all of the seat's roots in one cut). By AI agents, Wed Nov 11 2026. No macro, syntax, notation, axiom, sorry.
-/
import Derived.Test.YtpfkhinbehegbaaChecked
import GoSem.Claim
import GoSem.ClaimJoined
import GoSem.ClaimMapViews
import Derived.JoinedTies
import Derived.KernelRfl
namespace Go.Proofs.Ytpfkhinbehegbaa
/- THE CELL 'sum', in the pinned program and in every row, IS THE sha256 OF THE DUMP (.gsa) THAT YtpfkhinbehegbaaProg.lean LOADS. Nothing in Lean hashes anything: it is a label: what it is worth is what the hold of that sum in a sandbox is worth. -/
noncomputable def Try.pinned : Pinned := { name := "ytpfkhinbehegbaa", sum := "ea0522df36abb279747bc69501f5f194f16942097b2a0a0ef6b123fab962db27", checked := Try.checked }
namespace Rows
def none {H : Type} : Left H := { results := [], args := [] }

/-- 'jacquardlaw24.DiophantGcd': WHATEVER THE INPUT: true; the input reads as it did. -/
def diophantGcdSpec : ChangeSpec := { name := "diophantGcd", fn := fun _ => fun
  | [d1, d2] => { results := [.lit (.bool true)], args := [d1, d2] }
  | _ => none }
def diophantGcdRow : OpenClaim := { program := "ytpfkhinbehegbaa", sum := "ea0522df36abb279747bc69501f5f194f16942097b2a0a0ef6b123fab962db27", func := "jacquard/jacquardlaw24.DiophantGcd", spec := "diophantGcd", apart := false }
def DiophantGcdSaid : Prop := diophantGcdRow.holds Try.pinned (OpenSpec.ofChange diophantGcdSpec)

/-- ITS FALSE NEIGHBOUR: 'it returns false'. Refute it at one input. -/
def diophantGcdWrong : ChangeSpec := { name := "diophantGcd", fn := fun _ => fun
  | [d1, d2] => { results := [.lit (.bool false)], args := [d1, d2] }
  | _ => none }
def DiophantGcdWrongFalsely : Prop := diophantGcdRow.holds Try.pinned (OpenSpec.ofChange diophantGcdWrong)

/-- 'jacquardlaw24.DiophantLines': WHATEVER THE INPUT: true; the input reads as it did. -/
def diophantLinesSpec : ChangeSpec := { name := "diophantLines", fn := fun _ => fun
  | [d1, d2] => { results := [.lit (.bool true)], args := [d1, d2] }
  | _ => none }
def diophantLinesRow : OpenClaim := { program := "ytpfkhinbehegbaa", sum := "ea0522df36abb279747bc69501f5f194f16942097b2a0a0ef6b123fab962db27", func := "jacquard/jacquardlaw24.DiophantLines", spec := "diophantLines", apart := false }
def DiophantLinesSaid : Prop := diophantLinesRow.holds Try.pinned (OpenSpec.ofChange diophantLinesSpec)

/-- ITS FALSE NEIGHBOUR: 'it returns false'. Refute it at one input. -/
def diophantLinesWrong : ChangeSpec := { name := "diophantLines", fn := fun _ => fun
  | [d1, d2] => { results := [.lit (.bool false)], args := [d1, d2] }
  | _ => none }
def DiophantLinesWrongFalsely : Prop := diophantLinesRow.holds Try.pinned (OpenSpec.ofChange diophantLinesWrong)

/-- 'jacquardlaw24.DiophantScales': WHATEVER THE INPUT: true; the input reads as it did. -/
def diophantScalesSpec : ChangeSpec := { name := "diophantScales", fn := fun _ => fun
  | [d1, d2] => { results := [.lit (.bool true)], args := [d1, d2] }
  | _ => none }
def diophantScalesRow : OpenClaim := { program := "ytpfkhinbehegbaa", sum := "ea0522df36abb279747bc69501f5f194f16942097b2a0a0ef6b123fab962db27", func := "jacquard/jacquardlaw24.DiophantScales", spec := "diophantScales", apart := false }
def DiophantScalesSaid : Prop := diophantScalesRow.holds Try.pinned (OpenSpec.ofChange diophantScalesSpec)

/-- ITS FALSE NEIGHBOUR: 'it returns false'. Refute it at one input. -/
def diophantScalesWrong : ChangeSpec := { name := "diophantScales", fn := fun _ => fun
  | [d1, d2] => { results := [.lit (.bool false)], args := [d1, d2] }
  | _ => none }
def DiophantScalesWrongFalsely : Prop := diophantScalesRow.holds Try.pinned (OpenSpec.ofChange diophantScalesWrong)

/-- 'jacquardlaw24.DiophantSound': WHATEVER THE INPUT: true; the input reads as it did. -/
def diophantSoundSpec : ChangeSpec := { name := "diophantSound", fn := fun _ => fun
  | [d1, d2] => { results := [.lit (.bool true)], args := [d1, d2] }
  | _ => none }
def diophantSoundRow : OpenClaim := { program := "ytpfkhinbehegbaa", sum := "ea0522df36abb279747bc69501f5f194f16942097b2a0a0ef6b123fab962db27", func := "jacquard/jacquardlaw24.DiophantSound", spec := "diophantSound", apart := false }
def DiophantSoundSaid : Prop := diophantSoundRow.holds Try.pinned (OpenSpec.ofChange diophantSoundSpec)

/-- ITS FALSE NEIGHBOUR: 'it returns false'. Refute it at one input. -/
def diophantSoundWrong : ChangeSpec := { name := "diophantSound", fn := fun _ => fun
  | [d1, d2] => { results := [.lit (.bool false)], args := [d1, d2] }
  | _ => none }
def DiophantSoundWrongFalsely : Prop := diophantSoundRow.holds Try.pinned (OpenSpec.ofChange diophantSoundWrong)

/-- 'jacquardlaw24.DiophantChecks': WHATEVER THE INPUT: true; the input reads as it did. -/
def diophantChecksSpec : ChangeSpec := { name := "diophantChecks", fn := fun _ => fun
  | [d1, d2] => { results := [.lit (.bool true)], args := [d1, d2] }
  | _ => none }
def diophantChecksRow : OpenClaim := { program := "ytpfkhinbehegbaa", sum := "ea0522df36abb279747bc69501f5f194f16942097b2a0a0ef6b123fab962db27", func := "jacquard/jacquardlaw24.DiophantChecks", spec := "diophantChecks", apart := false }
def DiophantChecksSaid : Prop := diophantChecksRow.holds Try.pinned (OpenSpec.ofChange diophantChecksSpec)

/-- ITS FALSE NEIGHBOUR: 'it returns false'. Refute it at one input. -/
def diophantChecksWrong : ChangeSpec := { name := "diophantChecks", fn := fun _ => fun
  | [d1, d2] => { results := [.lit (.bool false)], args := [d1, d2] }
  | _ => none }
def DiophantChecksWrongFalsely : Prop := diophantChecksRow.holds Try.pinned (OpenSpec.ofChange diophantChecksWrong)

/-- 'jacquardlaw24.DiophantRefuses': WHATEVER THE INPUT: true; the input reads as it did. -/
def diophantRefusesSpec : ChangeSpec := { name := "diophantRefuses", fn := fun _ => fun
  | [d] => { results := [.lit (.bool true)], args := [d] }
  | _ => none }
def diophantRefusesRow : OpenClaim := { program := "ytpfkhinbehegbaa", sum := "ea0522df36abb279747bc69501f5f194f16942097b2a0a0ef6b123fab962db27", func := "jacquard/jacquardlaw24.DiophantRefuses", spec := "diophantRefuses", apart := false }
def DiophantRefusesSaid : Prop := diophantRefusesRow.holds Try.pinned (OpenSpec.ofChange diophantRefusesSpec)

/-- ITS FALSE NEIGHBOUR: 'it returns false'. Refute it at one input. -/
def diophantRefusesWrong : ChangeSpec := { name := "diophantRefuses", fn := fun _ => fun
  | [d] => { results := [.lit (.bool false)], args := [d] }
  | _ => none }
def DiophantRefusesWrongFalsely : Prop := diophantRefusesRow.holds Try.pinned (OpenSpec.ofChange diophantRefusesWrong)

/-- 'jacquardlaw24.DiophantSolves': WHATEVER THE INPUT: true; the input reads as it did. -/
def diophantSolvesSpec : ChangeSpec := { name := "diophantSolves", fn := fun _ => fun
  | [d] => { results := [.lit (.bool true)], args := [d] }
  | _ => none }
def diophantSolvesRow : OpenClaim := { program := "ytpfkhinbehegbaa", sum := "ea0522df36abb279747bc69501f5f194f16942097b2a0a0ef6b123fab962db27", func := "jacquard/jacquardlaw24.DiophantSolves", spec := "diophantSolves", apart := false }
def DiophantSolvesSaid : Prop := diophantSolvesRow.holds Try.pinned (OpenSpec.ofChange diophantSolvesSpec)

/-- ITS FALSE NEIGHBOUR: 'it returns false'. Refute it at one input. -/
def diophantSolvesWrong : ChangeSpec := { name := "diophantSolves", fn := fun _ => fun
  | [d] => { results := [.lit (.bool false)], args := [d] }
  | _ => none }
def DiophantSolvesWrongFalsely : Prop := diophantSolvesRow.holds Try.pinned (OpenSpec.ofChange diophantSolvesWrong)

/-- 'jacquardlaw24.DiophantLarge': WHATEVER THE INPUT: true; the input reads as it did. -/
def diophantLargeSpec : ChangeSpec := { name := "diophantLarge", fn := fun _ => fun
  | [d] => { results := [.lit (.bool true)], args := [d] }
  | _ => none }
def diophantLargeRow : OpenClaim := { program := "ytpfkhinbehegbaa", sum := "ea0522df36abb279747bc69501f5f194f16942097b2a0a0ef6b123fab962db27", func := "jacquard/jacquardlaw24.DiophantLarge", spec := "diophantLarge", apart := false }
def DiophantLargeSaid : Prop := diophantLargeRow.holds Try.pinned (OpenSpec.ofChange diophantLargeSpec)

/-- ITS FALSE NEIGHBOUR: 'it returns false'. Refute it at one input. -/
def diophantLargeWrong : ChangeSpec := { name := "diophantLarge", fn := fun _ => fun
  | [d] => { results := [.lit (.bool false)], args := [d] }
  | _ => none }
def DiophantLargeWrongFalsely : Prop := diophantLargeRow.holds Try.pinned (OpenSpec.ofChange diophantLargeWrong)

/- THE SECOND FORM. 'bulk': how many values and letters a reading holds, each counted each time it is reached (what is shared counts as often as it is met; a slice's spare places count too). A statement '..UptoSaid' is the law's where the arguments, and the package variables that the reading takes, are together of bulk at most 1048576: NARROWER than '..Said'. Prove '..Said' where nothing that the law and all that it calls make is longer than what came in: it says more and counts as full. Else prove '..UptoSaid'. A law counts once. -/
mutual
def uptoBulk {H : Type} : DataW H → Nat
  | .lit (.string bytes) => bytes.length + 1
  | .lit _ => 1
  | .nil => 1
  | .ptr d => uptoBulk d + 1
  | .slice elems spare => uptoBulkAll elems + uptoBulkAll spare + 1
  | .agg parts => uptoBulkAll parts + 1
  | .iface _ d => uptoBulk d + 1
  | .map entries => uptoBulkEntries entries + 1
  | .held _ => 1
def uptoBulkAll {H : Type} : List (DataW H) → Nat
  | [] => 0
  | d :: r => uptoBulk d + uptoBulkAll r
def uptoBulkEntries {H : Type} : List (Lit × DataW H) → Nat
  | [] => 0
  | x :: r => uptoBulkEntry x + uptoBulkEntries r
def uptoBulkEntry {H : Type} : Lit × DataW H → Nat
  | (.string bytes, d) => bytes.length + uptoBulk d + 1
  | (_, d) => uptoBulk d + 1
 end
def uptoSmall : (H : Type) → List (DataW H) → Bool := fun _ ds => decide (uptoBulkAll ds ≤ 1048576)
def OpenSpec.upto (s : _root_.Go.ChangeSpec) : _root_.Go.OpenSpec := { _root_.Go.OpenSpec.ofChange s with cond := some uptoSmall }

/-- 'jacquardlaw24.DiophantGcd', WHERE WHAT IT READS IS OF BULK AT MOST 1048576: true; the input reads as it did. -/
def diophantGcdUptoRow : OpenClaim := { program := "ytpfkhinbehegbaa", sum := "ea0522df36abb279747bc69501f5f194f16942097b2a0a0ef6b123fab962db27", func := "jacquard/jacquardlaw24.DiophantGcd", spec := "diophantGcd", apart := false, narrowed := true }
def DiophantGcdUptoSaid : Prop := diophantGcdUptoRow.holds Try.pinned (OpenSpec.upto diophantGcdSpec)

/-- 'jacquardlaw24.DiophantLines', WHERE WHAT IT READS IS OF BULK AT MOST 1048576: true; the input reads as it did. -/
def diophantLinesUptoRow : OpenClaim := { program := "ytpfkhinbehegbaa", sum := "ea0522df36abb279747bc69501f5f194f16942097b2a0a0ef6b123fab962db27", func := "jacquard/jacquardlaw24.DiophantLines", spec := "diophantLines", apart := false, narrowed := true }
def DiophantLinesUptoSaid : Prop := diophantLinesUptoRow.holds Try.pinned (OpenSpec.upto diophantLinesSpec)

/-- 'jacquardlaw24.DiophantScales', WHERE WHAT IT READS IS OF BULK AT MOST 1048576: true; the input reads as it did. -/
def diophantScalesUptoRow : OpenClaim := { program := "ytpfkhinbehegbaa", sum := "ea0522df36abb279747bc69501f5f194f16942097b2a0a0ef6b123fab962db27", func := "jacquard/jacquardlaw24.DiophantScales", spec := "diophantScales", apart := false, narrowed := true }
def DiophantScalesUptoSaid : Prop := diophantScalesUptoRow.holds Try.pinned (OpenSpec.upto diophantScalesSpec)

/-- 'jacquardlaw24.DiophantSound', WHERE WHAT IT READS IS OF BULK AT MOST 1048576: true; the input reads as it did. -/
def diophantSoundUptoRow : OpenClaim := { program := "ytpfkhinbehegbaa", sum := "ea0522df36abb279747bc69501f5f194f16942097b2a0a0ef6b123fab962db27", func := "jacquard/jacquardlaw24.DiophantSound", spec := "diophantSound", apart := false, narrowed := true }
def DiophantSoundUptoSaid : Prop := diophantSoundUptoRow.holds Try.pinned (OpenSpec.upto diophantSoundSpec)

/-- 'jacquardlaw24.DiophantChecks', WHERE WHAT IT READS IS OF BULK AT MOST 1048576: true; the input reads as it did. -/
def diophantChecksUptoRow : OpenClaim := { program := "ytpfkhinbehegbaa", sum := "ea0522df36abb279747bc69501f5f194f16942097b2a0a0ef6b123fab962db27", func := "jacquard/jacquardlaw24.DiophantChecks", spec := "diophantChecks", apart := false, narrowed := true }
def DiophantChecksUptoSaid : Prop := diophantChecksUptoRow.holds Try.pinned (OpenSpec.upto diophantChecksSpec)

/-- 'jacquardlaw24.DiophantRefuses', WHERE WHAT IT READS IS OF BULK AT MOST 1048576: true; the input reads as it did. -/
def diophantRefusesUptoRow : OpenClaim := { program := "ytpfkhinbehegbaa", sum := "ea0522df36abb279747bc69501f5f194f16942097b2a0a0ef6b123fab962db27", func := "jacquard/jacquardlaw24.DiophantRefuses", spec := "diophantRefuses", apart := false, narrowed := true }
def DiophantRefusesUptoSaid : Prop := diophantRefusesUptoRow.holds Try.pinned (OpenSpec.upto diophantRefusesSpec)

/-- 'jacquardlaw24.DiophantSolves', WHERE WHAT IT READS IS OF BULK AT MOST 1048576: true; the input reads as it did. -/
def diophantSolvesUptoRow : OpenClaim := { program := "ytpfkhinbehegbaa", sum := "ea0522df36abb279747bc69501f5f194f16942097b2a0a0ef6b123fab962db27", func := "jacquard/jacquardlaw24.DiophantSolves", spec := "diophantSolves", apart := false, narrowed := true }
def DiophantSolvesUptoSaid : Prop := diophantSolvesUptoRow.holds Try.pinned (OpenSpec.upto diophantSolvesSpec)

/-- 'jacquardlaw24.DiophantLarge', WHERE WHAT IT READS IS OF BULK AT MOST 1048576: true; the input reads as it did. -/
def diophantLargeUptoRow : OpenClaim := { program := "ytpfkhinbehegbaa", sum := "ea0522df36abb279747bc69501f5f194f16942097b2a0a0ef6b123fab962db27", func := "jacquard/jacquardlaw24.DiophantLarge", spec := "diophantLarge", apart := false, narrowed := true }
def DiophantLargeUptoSaid : Prop := diophantLargeUptoRow.holds Try.pinned (OpenSpec.upto diophantLargeSpec)

end Rows
end Go.Proofs.Ytpfkhinbehegbaa
