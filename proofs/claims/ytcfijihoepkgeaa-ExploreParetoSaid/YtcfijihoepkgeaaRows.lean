/-
  No cell of these rows narrows 'for every input' (looked for: loops, veiled, ifaces, maps, wideKeys, modest, calm, conditions, laid).
  DERIVED. THE GIVEN ROWS OF THIS SEAT. 6 by the template 'for every input the law returns true; each argument reads behind the call as it read before'; 0 by the template 'total and deterministic' (their statements: YtcfijihoepkgeaaTotals.lean).
  GIVEN WITH THE SEED: the statements are not yours to turn. If you find one false, say at which input.
  Laid BY PROGRAM, IN A SANDBOX (cutbox-rows.mjs): the forced cells as the released guide's own fill.sh prints them over the translation ca4b9b461c5f94d0… (all of the seat's roots in one cut). By AI agents, Wed Nov 11 2026. No macro, syntax, notation, axiom, sorry.
-/
import Derived.Test.YtcfijihoepkgeaaChecked
import GoSem.Claim
import GoSem.ClaimJoined
import GoSem.ClaimMapViews
import Derived.JoinedTies
import Derived.KernelRfl
namespace Go.Proofs.Ytcfijihoepkgeaa
/- THE CELL 'sum', in the pinned program and in every row, IS THE sha256 OF THE DUMP (.gsa) THAT YtcfijihoepkgeaaProg.lean LOADS. Nothing in Lean hashes anything: it is a label: what it is worth is what the hold of that sum in a sandbox is worth. -/
noncomputable def Try.pinned : Pinned := { name := "ytcfijihoepkgeaa", sum := "ca4b9b461c5f94d0a47e3d52554e78cc033e989beb82f91948ae413d5900186a", checked := Try.checked }
namespace Rows
def none {H : Type} : Left H := { results := [], args := [] }

/-- 'jacquardlaw55.ExploreDominates': WHATEVER THE INPUT: true; the input reads as it did. -/
def exploreDominatesSpec : ChangeSpec := { name := "exploreDominates", fn := fun _ => fun
  | [d1, d2, d3] => { results := [.lit (.bool true)], args := [d1, d2, d3] }
  | _ => none }
def exploreDominatesRow : OpenClaim := { program := "ytcfijihoepkgeaa", sum := "ca4b9b461c5f94d0a47e3d52554e78cc033e989beb82f91948ae413d5900186a", func := "jacquard/jacquardlaw55.ExploreDominates", spec := "exploreDominates", unfollowed := true, recurses := true, apart := false }
def ExploreDominatesSaid : Prop := exploreDominatesRow.holds Try.pinned (OpenSpec.ofChange exploreDominatesSpec)

/-- ITS FALSE NEIGHBOUR: 'it returns false'. Refute it at one input. -/
def exploreDominatesWrong : ChangeSpec := { name := "exploreDominates", fn := fun _ => fun
  | [d1, d2, d3] => { results := [.lit (.bool false)], args := [d1, d2, d3] }
  | _ => none }
def ExploreDominatesWrongFalsely : Prop := exploreDominatesRow.holds Try.pinned (OpenSpec.ofChange exploreDominatesWrong)

/-- 'jacquardlaw55.ExplorePareto': WHATEVER THE INPUT: true; the input reads as it did. -/
def exploreParetoSpec : ChangeSpec := { name := "explorePareto", fn := fun _ => fun
  | [d] => { results := [.lit (.bool true)], args := [d] }
  | _ => none }
def exploreParetoRow : OpenClaim := { program := "ytcfijihoepkgeaa", sum := "ca4b9b461c5f94d0a47e3d52554e78cc033e989beb82f91948ae413d5900186a", func := "jacquard/jacquardlaw55.ExplorePareto", spec := "explorePareto", unfollowed := true, recurses := true, apart := false }
def ExploreParetoSaid : Prop := exploreParetoRow.holds Try.pinned (OpenSpec.ofChange exploreParetoSpec)

/-- ITS FALSE NEIGHBOUR: 'it returns false'. Refute it at one input. -/
def exploreParetoWrong : ChangeSpec := { name := "explorePareto", fn := fun _ => fun
  | [d] => { results := [.lit (.bool false)], args := [d] }
  | _ => none }
def ExploreParetoWrongFalsely : Prop := exploreParetoRow.holds Try.pinned (OpenSpec.ofChange exploreParetoWrong)

/-- 'jacquardlaw55.ExploreCovers': WHATEVER THE INPUT: true; the input reads as it did. -/
def exploreCoversSpec : ChangeSpec := { name := "exploreCovers", fn := fun _ => fun
  | [d] => { results := [.lit (.bool true)], args := [d] }
  | _ => none }
def exploreCoversRow : OpenClaim := { program := "ytcfijihoepkgeaa", sum := "ca4b9b461c5f94d0a47e3d52554e78cc033e989beb82f91948ae413d5900186a", func := "jacquard/jacquardlaw55.ExploreCovers", spec := "exploreCovers", unfollowed := true, recurses := true, apart := false }
def ExploreCoversSaid : Prop := exploreCoversRow.holds Try.pinned (OpenSpec.ofChange exploreCoversSpec)

/-- ITS FALSE NEIGHBOUR: 'it returns false'. Refute it at one input. -/
def exploreCoversWrong : ChangeSpec := { name := "exploreCovers", fn := fun _ => fun
  | [d] => { results := [.lit (.bool false)], args := [d] }
  | _ => none }
def ExploreCoversWrongFalsely : Prop := exploreCoversRow.holds Try.pinned (OpenSpec.ofChange exploreCoversWrong)

/-- 'jacquardlaw55.ExploreBest': WHATEVER THE INPUT: true; the input reads as it did. -/
def exploreBestSpec : ChangeSpec := { name := "exploreBest", fn := fun _ => fun
  | [d1, d2, d3] => { results := [.lit (.bool true)], args := [d1, d2, d3] }
  | _ => none }
def exploreBestRow : OpenClaim := { program := "ytcfijihoepkgeaa", sum := "ca4b9b461c5f94d0a47e3d52554e78cc033e989beb82f91948ae413d5900186a", func := "jacquard/jacquardlaw55.ExploreBest", spec := "exploreBest", unfollowed := true, recurses := true, apart := false }
def ExploreBestSaid : Prop := exploreBestRow.holds Try.pinned (OpenSpec.ofChange exploreBestSpec)

/-- ITS FALSE NEIGHBOUR: 'it returns false'. Refute it at one input. -/
def exploreBestWrong : ChangeSpec := { name := "exploreBest", fn := fun _ => fun
  | [d1, d2, d3] => { results := [.lit (.bool false)], args := [d1, d2, d3] }
  | _ => none }
def ExploreBestWrongFalsely : Prop := exploreBestRow.holds Try.pinned (OpenSpec.ofChange exploreBestWrong)

/-- 'jacquardlaw55.ExploreChoices': WHATEVER THE INPUT: true; the input reads as it did. -/
def exploreChoicesSpec : ChangeSpec := { name := "exploreChoices", fn := fun _ => fun
  | [d1, d2] => { results := [.lit (.bool true)], args := [d1, d2] }
  | _ => none }
def exploreChoicesRow : OpenClaim := { program := "ytcfijihoepkgeaa", sum := "ca4b9b461c5f94d0a47e3d52554e78cc033e989beb82f91948ae413d5900186a", func := "jacquard/jacquardlaw55.ExploreChoices", spec := "exploreChoices", unfollowed := true, recurses := true, apart := false }
def ExploreChoicesSaid : Prop := exploreChoicesRow.holds Try.pinned (OpenSpec.ofChange exploreChoicesSpec)

/-- ITS FALSE NEIGHBOUR: 'it returns false'. Refute it at one input. -/
def exploreChoicesWrong : ChangeSpec := { name := "exploreChoices", fn := fun _ => fun
  | [d1, d2] => { results := [.lit (.bool false)], args := [d1, d2] }
  | _ => none }
def ExploreChoicesWrongFalsely : Prop := exploreChoicesRow.holds Try.pinned (OpenSpec.ofChange exploreChoicesWrong)

/-- 'jacquardlaw55.ExploreVariants': WHATEVER THE INPUT: true; the input reads as it did. -/
def exploreVariantsSpec : ChangeSpec := { name := "exploreVariants", fn := fun _ => fun
  | [d1, d2, d3] => { results := [.lit (.bool true)], args := [d1, d2, d3] }
  | _ => none }
def exploreVariantsRow : OpenClaim := { program := "ytcfijihoepkgeaa", sum := "ca4b9b461c5f94d0a47e3d52554e78cc033e989beb82f91948ae413d5900186a", func := "jacquard/jacquardlaw55.ExploreVariants", spec := "exploreVariants", unfollowed := true, recurses := true, apart := false }
def ExploreVariantsSaid : Prop := exploreVariantsRow.holds Try.pinned (OpenSpec.ofChange exploreVariantsSpec)

/-- ITS FALSE NEIGHBOUR: 'it returns false'. Refute it at one input. -/
def exploreVariantsWrong : ChangeSpec := { name := "exploreVariants", fn := fun _ => fun
  | [d1, d2, d3] => { results := [.lit (.bool false)], args := [d1, d2, d3] }
  | _ => none }
def ExploreVariantsWrongFalsely : Prop := exploreVariantsRow.holds Try.pinned (OpenSpec.ofChange exploreVariantsWrong)

/- THE SECOND FORM. 'bulk': how many values and letters a reading holds, each counted each time it is reached (what is shared counts as often as it is met; a slice's spare places count too). A statement '..UptoSaid' is the law's where the arguments, and the package variables that the reading takes, are together of bulk at most 1048576: NARROWER than '..Said'. Prove '..Said' where nothing that the law and all that it calls make is longer than what came in: it says more and counts as full. Else prove '..UptoSaid'. A law counts once. -/
mutual
def uptoBulk {H : Type} : DataW H → Nat
  | .lit (.string bytes) => bytes.length + 1
  | .lit _ => 1
  | .nil => 1
  | .ptr d => uptoBulk d + 1
  | .slice elems spare => uptoBulkAll elems + uptoBulkAll spare + 1
  | .agg parts => uptoBulkAll parts + 1
  | .iface _ d => uptoBulk d + 1
  | .map entries => uptoBulkEntries entries + 1
  | .held _ => 1
def uptoBulkAll {H : Type} : List (DataW H) → Nat
  | [] => 0
  | d :: r => uptoBulk d + uptoBulkAll r
def uptoBulkEntries {H : Type} : List (Lit × DataW H) → Nat
  | [] => 0
  | x :: r => uptoBulkEntry x + uptoBulkEntries r
def uptoBulkEntry {H : Type} : Lit × DataW H → Nat
  | (.string bytes, d) => bytes.length + uptoBulk d + 1
  | (_, d) => uptoBulk d + 1
 end
def uptoSmall : (H : Type) → List (DataW H) → Bool := fun _ ds => decide (uptoBulkAll ds ≤ 1048576)
def OpenSpec.upto (s : _root_.Go.ChangeSpec) : _root_.Go.OpenSpec := { _root_.Go.OpenSpec.ofChange s with cond := some uptoSmall }

/-- 'jacquardlaw55.ExploreDominates', WHERE WHAT IT READS IS OF BULK AT MOST 1048576: true; the input reads as it did. -/
def exploreDominatesUptoRow : OpenClaim := { program := "ytcfijihoepkgeaa", sum := "ca4b9b461c5f94d0a47e3d52554e78cc033e989beb82f91948ae413d5900186a", func := "jacquard/jacquardlaw55.ExploreDominates", spec := "exploreDominates", unfollowed := true, recurses := true, apart := false, narrowed := true }
def ExploreDominatesUptoSaid : Prop := exploreDominatesUptoRow.holds Try.pinned (OpenSpec.upto exploreDominatesSpec)

/-- 'jacquardlaw55.ExplorePareto', WHERE WHAT IT READS IS OF BULK AT MOST 1048576: true; the input reads as it did. -/
def exploreParetoUptoRow : OpenClaim := { program := "ytcfijihoepkgeaa", sum := "ca4b9b461c5f94d0a47e3d52554e78cc033e989beb82f91948ae413d5900186a", func := "jacquard/jacquardlaw55.ExplorePareto", spec := "explorePareto", unfollowed := true, recurses := true, apart := false, narrowed := true }
def ExploreParetoUptoSaid : Prop := exploreParetoUptoRow.holds Try.pinned (OpenSpec.upto exploreParetoSpec)

/-- 'jacquardlaw55.ExploreCovers', WHERE WHAT IT READS IS OF BULK AT MOST 1048576: true; the input reads as it did. -/
def exploreCoversUptoRow : OpenClaim := { program := "ytcfijihoepkgeaa", sum := "ca4b9b461c5f94d0a47e3d52554e78cc033e989beb82f91948ae413d5900186a", func := "jacquard/jacquardlaw55.ExploreCovers", spec := "exploreCovers", unfollowed := true, recurses := true, apart := false, narrowed := true }
def ExploreCoversUptoSaid : Prop := exploreCoversUptoRow.holds Try.pinned (OpenSpec.upto exploreCoversSpec)

/-- 'jacquardlaw55.ExploreBest', WHERE WHAT IT READS IS OF BULK AT MOST 1048576: true; the input reads as it did. -/
def exploreBestUptoRow : OpenClaim := { program := "ytcfijihoepkgeaa", sum := "ca4b9b461c5f94d0a47e3d52554e78cc033e989beb82f91948ae413d5900186a", func := "jacquard/jacquardlaw55.ExploreBest", spec := "exploreBest", unfollowed := true, recurses := true, apart := false, narrowed := true }
def ExploreBestUptoSaid : Prop := exploreBestUptoRow.holds Try.pinned (OpenSpec.upto exploreBestSpec)

/-- 'jacquardlaw55.ExploreChoices', WHERE WHAT IT READS IS OF BULK AT MOST 1048576: true; the input reads as it did. -/
def exploreChoicesUptoRow : OpenClaim := { program := "ytcfijihoepkgeaa", sum := "ca4b9b461c5f94d0a47e3d52554e78cc033e989beb82f91948ae413d5900186a", func := "jacquard/jacquardlaw55.ExploreChoices", spec := "exploreChoices", unfollowed := true, recurses := true, apart := false, narrowed := true }
def ExploreChoicesUptoSaid : Prop := exploreChoicesUptoRow.holds Try.pinned (OpenSpec.upto exploreChoicesSpec)

/-- 'jacquardlaw55.ExploreVariants', WHERE WHAT IT READS IS OF BULK AT MOST 1048576: true; the input reads as it did. -/
def exploreVariantsUptoRow : OpenClaim := { program := "ytcfijihoepkgeaa", sum := "ca4b9b461c5f94d0a47e3d52554e78cc033e989beb82f91948ae413d5900186a", func := "jacquard/jacquardlaw55.ExploreVariants", spec := "exploreVariants", unfollowed := true, recurses := true, apart := false, narrowed := true }
def ExploreVariantsUptoSaid : Prop := exploreVariantsUptoRow.holds Try.pinned (OpenSpec.upto exploreVariantsSpec)

end Rows
end Go.Proofs.Ytcfijihoepkgeaa
