/- Regions: what the operations look at. -/
import Derived.Test.YtdgineiemjplhaaAmRegA
set_option linter.unusedVariables false
set_option linter.unusedSimpArgs false
namespace Go.AM
open Go Go.RowKit
section
variable {P : Program} {call : CallT} {pure : FuncId → Bool} {fr fr' : List V} {H : Heap}

theorem ev_congr {x : Opd} (h : ∀ t ∈ x.reads, fr.getD t .undef = fr'.getD t .undef) : ev fr x = ev fr' x := by
  cases x with
  | t n => exact h n (by simp [Opd.reads])
  | c v => rfl
theorem evs_congr : ∀ {xs : List Opd}, (∀ t ∈ xs.flatMap Opd.reads, fr.getD t .undef = fr'.getD t .undef) → evs fr xs = evs fr' xs
  | [], _ => rfl
  | x :: xs, h => by
    simp only [evs]
    rw [ev_congr (fun t ht => h t (by simp [ht])), evs_congr (fun t ht => h t (by simp only [List.flatMap_cons, List.mem_append]; exact .inr ht))]
theorem evOpt_congr {x : Option Opd} (h : ∀ t ∈ optReads x, fr.getD t .undef = fr'.getD t .undef) : x.map (ev fr) = x.map (ev fr') := by
  cases x with
  | none => rfl
  | some x => simp [ev_congr (x := x) (fun t ht => h t ht)]
theorem parts_congr {ps : List (Nat × Nat × Opd)} (h : ∀ t ∈ ps.flatMap (fun p => p.2.2.reads), fr.getD t .undef = fr'.getD t .undef) : (ps.map fun p => (p.1, p.2.1, ev fr p.2.2)) = ps.map fun p => (p.1, p.2.1, ev fr' p.2.2) := by
  apply List.map_congr_left
  intro p hp
  rw [ev_congr (fun t ht => h t (List.mem_flatMap.2 ⟨p, hp, ht⟩))]
theorem execI_congr {i : I} (h : ∀ t ∈ i.reads, fr.getD t .undef = fr'.getD t .undef) : execI call pure fr H i = execI call pure fr' H i := by
  have l : ∀ {a b : List Nat}, (∀ t ∈ a ++ b, fr.getD t .undef = fr'.getD t .undef) → (∀ t ∈ a, fr.getD t .undef = fr'.getD t .undef) ∧ ∀ t ∈ b, fr.getD t .undef = fr'.getD t .undef :=
    fun h => ⟨fun t ht => h t (List.mem_append_left _ ht), fun t ht => h t (List.mem_append_right _ ht)⟩
  cases i with
  | mv x => simp only [execI, ev_congr h]
  | box ty x => simp only [execI, ev_congr (x := x) h]
  | nilck x => simp only [execI, ev_congr (x := x) h]
  | isnil p n x => simp only [execI, ev_congr (x := x) h]
  | un op x => simp only [execI, ev_congr (x := x) h]
  | conv k x => simp only [execI, ev_congr (x := x) h]
  | fadr o x => simp only [execI, ev_congr (x := x) h]
  | fld n o x => simp only [execI, ev_congr (x := x) h]
  | len s x => simp only [execI, ev_congr (x := x) h]
  | ext x i => simp only [execI, ev_congr (x := x) h]
  | ld n x => simp only [execI, ev_congr (x := x) h]
  | pick a b c => simp only [execI, ev_congr (l (l h).1).1, ev_congr (l (l h).1).2, ev_congr (l h).2]
  | build z ps => simp only [execI, parts_congr h]
  | bsl ty z n zero ps => simp only [execI, parts_congr h]
  | st n x y => simp only [execI, ev_congr (l h).1, ev_congr (l h).2]
  | bin op x y => simp only [execI, ev_congr (l h).1, ev_congr (l h).2]
  | binb op x y => simp only [execI, ev_congr (l h).1, ev_congr (l h).2]
  | eqa op k x y => simp only [execI, ev_congr (l h).1, ev_congr (l h).2]
  | mks ty z b zero x y => simp only [execI, ev_congr (l h).1, ev_congr (l h).2]
  | iadr n z x y => simp only [execI, ev_congr (l h).1, ev_congr (l h).2]
  | idxs x y => simp only [execI, ev_congr (l h).1, ev_congr (l h).2]
  | idxa m z n x y => simp only [execI, ev_congr (l h).1, ev_congr (l h).2]
  | app ty z b x y => simp only [execI, ev_congr (l h).1, ev_congr (l h).2]
  | mkfn f cs => simp only [execI, evs_congr h]
  | slices x lo hi => simp only [execI, ev_congr (l (l h).1).1, evOpt_congr (l (l h).1).2, evOpt_congr (l h).2]
  | slice z x lo hi mx => simp only [execI, ev_congr (l (l (l h).1).1).1, evOpt_congr (l (l (l h).1).1).2, evOpt_congr (l (l h).1).2, evOpt_congr (l h).2]
  | mm m xs => simp only [execI, evs_congr h]
  | call x as => simp only [execI, ev_congr (l h).1, evs_congr (l h).2]
  | mkm ag z => simp only [execI]
  | lku kk ag z ok m k => simp only [execI, ev_congr (l h).1, ev_congr (l h).2]
  | mup kk ag n m k x => simp only [execI, ev_congr (l (l h).1).1, ev_congr (l (l h).1).2, ev_congr (l h).2]
theorem execV_congr {o : O} (h : ∀ t ∈ o.reads, fr.getD t .undef = fr'.getD t .undef) : execV call pure o fr H = execV call pure o fr' H := by
  have hg : wantedO fr o.g = wantedO fr' o.g := by
    cases hq : o.g with
    | none => rfl
    | some p =>
      have := h p.1 (by simp [O.reads, hq])
      simp only [wantedO, this]
  unfold execV
  rw [hg, execI_congr (fun t ht => h t (by simp [O.reads, ht]))]
theorem execI_pure {i : I} (hp : i.pure = true) {v : V} {e : Eff} (h : execI call pure fr H i = some (v, e)) : e = .new [] ∧ ∀ H', execI call pure fr H' i = some (v, .new []) := by
  have key : ∀ {α : Type} {x : Option α} {g : α → V} {v : V} {e : Eff}, x.map (fun v => (g v, Eff.new [])) = some (v, e) → e = .new [] ∧ x.map (fun v => (g v, Eff.new [])) = some (v, .new []) := by
    intro α x g v e h
    simp only [Option.map_eq_some_iff, Prod.mk.injEq] at h
    obtain ⟨y, rfl, rfl, rfl⟩ := h
    exact ⟨rfl, rfl⟩
  cases i <;> simp only [I.pure, Bool.false_eq_true] at hp <;> simp only [execI] at h ⊢
  all_goals first
    | exact ⟨(key h).1, fun _ => (key h).2⟩
    | (simp only [Option.some.injEq, Prod.mk.injEq] at h; obtain ⟨rfl, rfl⟩ := h; exact ⟨rfl, fun _ => rfl⟩)
    | (refine ⟨?_, fun H' => ?_⟩ <;> (repeat' split at h) <;> first
        | (cases h; done)
        | exact (key h).1
        | exact (key h).2
        | (rw [if_neg (by assumption)]; exact (key h).2)
        | (rw [if_neg (by assumption), if_pos (by assumption)]; exact (key h).2)
        | (simp only [Option.some.injEq, Prod.mk.injEq] at h; obtain ⟨rfl, rfl⟩ := h; first | rfl | simp_all)
        | (simp_all; done)
        | (simp only [Option.bind_eq_some_iff] at h
           try simp only [Option.bind_eq_some_iff]
           obtain ⟨cs, h1, h2⟩ := h
           split at h2
           · simp only [Option.some.injEq, Prod.mk.injEq] at h2
             obtain ⟨rfl, rfl⟩ := h2
             first | rfl | exact ⟨cs, h1, by simp_all⟩
           · cases h2))
end
end Go.AM
