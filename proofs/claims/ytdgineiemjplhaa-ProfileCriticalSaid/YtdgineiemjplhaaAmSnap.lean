/- Snapshots: a slice of the call's own, read as a value; what it reads is frozen. -/
import Derived.Test.YtdgineiemjplhaaAmSel
set_option linter.unusedVariables false
namespace Go.AM
open Go Go.RowKit

theorem freezeH_append : ∀ (H : Heap) (a b : List (Nat × Nat)), freezeH H (a ++ b) = freezeH (freezeH H a) b
  | H, [], b => rfl
  | H, (x, m) :: a, b => freezeH_append (H.modify x fun h => { h with fz := max h.fz m }) a b
theorem freeze_get {H : Heap} {b m i : Nat} {k : Blk} (h : (H.modify b fun h => { h with fz := max h.fz m })[i]? = some k) : ∃ k0, H[i]? = some k0 ∧ k.es = k0.es ∧ k.z = k0.z ∧ k.box = k0.box ∧ k.flat = k0.flat ∧ k0.fz ≤ k.fz := by
  rw [List.getElem?_modify] at h
  split at h
  · obtain ⟨k0, h0, rfl⟩ := Option.map_eq_some_iff.1 h
    exact ⟨k0, h0, rfl, rfl, rfl, rfl, Nat.le_max_left _ _⟩
  · simp at h
    exact ⟨k, h, rfl, rfl, rfl, rfl, Nat.le_refl _⟩
theorem freezeH_get : ∀ {fs : List (Nat × Nat)} {H : Heap} {i : Nat} {k : Blk}, (freezeH H fs)[i]? = some k → ∃ k0, H[i]? = some k0 ∧ k.es = k0.es ∧ k.z = k0.z ∧ k.box = k0.box ∧ k.flat = k0.flat ∧ k0.fz ≤ k.fz
  | [], H, i, k, h => ⟨k, h, rfl, rfl, rfl, rfl, Nat.le_refl _⟩
  | (b, m) :: fs, H, i, k, h => by
    obtain ⟨k1, h1, e1, e2, e3, e4, e5⟩ := freezeH_get (fs := fs) (H := H.modify b fun h => { h with fz := max h.fz m }) h
    obtain ⟨k0, h0, d1, d2, d3, d4, d5⟩ := freeze_get h1
    exact ⟨k0, h0, e1.trans d1, e2.trans d2, e3.trans d3, e4.trans d4, Nat.le_trans d5 e5⟩
theorem freezeH_len : ∀ (fs : List (Nat × Nat)) (H : Heap), (freezeH H fs).length = H.length
  | [], H => rfl
  | (b, m) :: fs, H => by
    have := freezeH_len fs (H.modify b fun h => { h with fz := max h.fz m })
    simpa [freezeH] using this
theorem freezeH_ok {fs : List (Nat × Nat)} {H : Heap} (h : HOk H) : HOk (freezeH H fs) := by
  intro k hk
  obtain ⟨i, hi⟩ := List.mem_iff_getElem?.1 hk
  obtain ⟨k0, h0, e1, e2, e3, e4, e5⟩ := freezeH_get hi
  have := h.get h0
  exact ⟨by rw [e1, e2]; exact this.z, by rw [e1]; exact this.cell, by rw [e1, e3]; exact this.box, by rw [e1, e3]; exact this.tree, by rw [e1, e4]; exact this.flat⟩
theorem snap1_freeze (H : Heap) (b m : Nat) (v : V) : v.snap1 (H.modify b fun h => { h with fz := max h.fz m }) = v.snap1 H := by
  cases v <;> simp only [V.snap1]
  rename_i b' L o n
  rw [List.getElem?_modify]
  split
  · cases hb : H[b']? <;> simp
  · simp
theorem snap1_freezeH (v : V) : ∀ (fs : List (Nat × Nat)) (H : Heap), v.snap1 (freezeH H fs) = v.snap1 H
  | [], H => rfl
  | (b, m) :: fs, H => (snap1_freezeH v fs _).trans (snap1_freeze H b m v)
theorem snapL_freezeH (fs : List (Nat × Nat)) (H : Heap) : ∀ (cs : List V), snapL (freezeH H fs) cs = snapL H cs
  | [] => rfl
  | v :: vs => by simp only [snapL, snap1_freezeH, snapL_freezeH fs H vs]
theorem snap_freezeH (fs : List (Nat × Nat)) (H : Heap) (v : V) : v.snap (freezeH H fs) = v.snap H := by
  cases v <;> simp only [V.snap, snap1_freezeH, snapL_freezeH]
theorem snapA_freezeH (fs : List (Nat × Nat)) (H : Heap) : ∀ (cs : List V), snapA (freezeH H fs) cs = snapA H cs
  | [] => rfl
  | v :: vs => by simp only [snapA, snap_freezeH, snapA_freezeH fs H vs]

def RelTL (F : Fz) (cs : List V) (us : List Value) : Prop := cs.length = us.length ∧ ∀ (j : Nat) (v : V) (u : Value), cs[j]? = some v → us[j]? = some u → RelT F v u
theorem RelTL.rel {ρ : Rho} {F : Fz} {cs : List V} {us : List Value} (h : RelTL F cs us) : RelL ρ F cs us := ⟨h.1, fun j v u hv hu => .t (h.2 j v u hv hu)⟩
theorem RelTL.mono {F F' : Fz} (hF : Fle F F') {cs : List V} {us : List Value} (h : RelTL F cs us) : RelTL F' cs us := ⟨h.1, fun j v u hv hu => (h.2 j v u hv hu).mono hF⟩
theorem RelTL.cons {F : Fz} {v : V} {u : Value} {cs : List V} {us : List Value} (h : RelT F v u) (hs : RelTL F cs us) : RelTL F (v :: cs) (u :: us) := by
  refine ⟨by simp [hs.1], fun j a b ha hb => ?_⟩
  cases j with
  | zero => simp at ha hb; subst ha hb; exact h
  | succ j => exact hs.2 j a b (by simpa using ha) (by simpa using hb)
theorem RelTL.trees {F : Fz} {cs : List V} {us : List Value} (h : RelTL F cs us) : ∀ v ∈ cs, v.tree = true := by
  intro v hv
  obtain ⟨j, hj⟩ := List.mem_iff_getElem?.1 hv
  obtain ⟨u, _, hr⟩ := (h.rel (ρ := Rho.none)).get hj
  have hj' : j < us.length := by rw [← h.1]; exact (List.getElem?_eq_some_iff.1 hj).1
  exact (h.2 j v us[j] hj (List.getElem?_eq_getElem hj')).tree

section
variable {ρ : Rho} {H : Heap} {w : World}
theorem snap1_sound {F : Fz} (h : Sim ρ F H w) (hok : HOk H) {v v' : V} {u : Value} {fs : List (Nat × Nat)} (hr : Rel ρ F v u) (hs : v.snap1 H = some (v', fs)) :
    ∃ F', Ext ρ F w ρ F' w ∧ Sim ρ F' (freezeH H fs) w ∧ RelT F' v' u := by
  have tr : ∀ {v v' : V} {u : Value} {fs : List (Nat × Nat)}, Rel ρ F v u → (if v.tree = true then some (v, []) else none : Option (V × List (Nat × Nat))) = some (v', fs) → ∃ F', Ext ρ F w ρ F' w ∧ Sim ρ F' (freezeH H fs) w ∧ RelT F' v' u := by
    intro v v' u fs hr hs
    split at hs
    · rename_i ht
      injection hs with hs
      injection hs with h1 h2
      subst h1 h2
      exact ⟨F, .refl _ _ _, h, hr.tree ht⟩
    · cases hs
  cases v with
  | sl z b L o n =>
    simp only [V.snap1, Option.bind_eq_some_iff] at hs
    obtain ⟨k, hk, hs⟩ := hs
    split at hs
    · rename_i hc
      simp only [Bool.and_eq_true, decide_eq_true_eq, Bool.not_eq_true'] at hc
      obtain ⟨⟨hL, hbox⟩, hon⟩ := hc
      injection hs with hs
      injection hs with h1 h2
      subst h1 h2 hL
      cases hr with
      | t hr => cases hr
      | sl _ _ _ _ cc r hr h3 h4 h5 =>
        obtain ⟨cur, hc, hsz, hz, hcap, hb⟩ := h.blk b k r hk hr
        have hb : RelB ρ F k.z k.es cur := hb
        have hkk := hok.get hk
        obtain ⟨hE, hS⟩ := h.freeze (m := o + n) hk hr hc
        refine ⟨_, hE, hS, ?_⟩
        have hlen : ((k.es.drop o).take n).length = n := by simp; omega
        have hel : ∀ (i : Nat) (e : List V), ((k.es.drop o).take n)[i]? = some e → k.es[o + i]? = some e ∧ i < n := by
          intro i e he
          rw [List.getElem?_take] at he
          split at he
          · rename_i hi
            rw [List.getElem?_drop] at he
            exact ⟨he, hi⟩
          · cases he
        have hidx : ∀ i j, o * r.z + i * k.z + j = (o + i) * k.z + j := fun i j => by rw [hz, Nat.add_mul]
        have key := RelT.tsl (F := F.frz r.blk ((o + n) * k.z) cur) k.z ((k.es.drop o).take n) (some ⟨r.blk, o * r.z, .none⟩) cc r.blk (o * r.z) (fun i j => (cur[(o + i) * k.z + j]?).getD default)
          (by rw [hlen]; omega) (by omega) ⟨rfl, fun _ => rfl⟩ ?_ ?_ ?_
        · rw [hlen] at key
          exact key
        · intro i e j v he hv
          obtain ⟨he', hi⟩ := hel i e he
          obtain ⟨u, hu, _⟩ := hb (o + i) e j v he' hv
          rw [hidx]
          have hj := (List.getElem?_eq_some_iff.1 hv).1
          rw [hkk.z e (List.mem_of_getElem? he')] at hj
          have : (o + i + 1) * k.z ≤ (o + n) * k.z := Nat.mul_le_mul_right _ (by omega)
          rw [Nat.add_mul _ 1] at this
          have hlt : (o + i) * k.z + j < (o + n) * k.z := by omega
          unfold Fz.frz
          rw [if_pos ⟨rfl, hlt⟩, hu]
          rfl
        · intro i e j v he hv
          obtain ⟨he', hi⟩ := hel i e he
          obtain ⟨u, hu, hrel⟩ := hb (o + i) e j v he' hv
          rw [hu]
          exact (hrel.tree (hkk.tree hbox e (List.mem_of_getElem? he') v (List.mem_of_getElem? hv))).mono hE.fle
        · intro e he
          exact hkk.z e (List.mem_of_mem_drop (List.mem_of_mem_take he))
    · cases hs
  | bool b => exact tr hr hs
  | int k n => exact tr hr hs
  | str s => exact tr hr hs
  | nilp => exact tr hr hs
  | nils => exact tr hr hs
  | nilf => exact tr hr hs
  | undef => exact tr hr hs
  | ptr b L i o => exact tr hr hs
  | tsl z es => exact tr hr hs
  | tptr cs o => exact tr hr hs
  | agg cs => exact tr hr hs
  | tup cs => exact tr hr hs
  | mp b => exact tr hr hs
  | fn f cs => exact tr hr hs
theorem snapL_sound : ∀ {cs : List V} {F : Fz} {H : Heap} {cs' : List V} {us : List Value} {fs : List (Nat × Nat)}, Sim ρ F H w → HOk H → RelL ρ F cs us → snapL H cs = some (cs', fs) →
    ∃ F', Ext ρ F w ρ F' w ∧ Sim ρ F' (freezeH H fs) w ∧ RelTL F' cs' us
  | [], F, H, cs', us, fs, h, hok, hr, hs => by
    simp only [snapL, Option.some.injEq, Prod.mk.injEq] at hs
    obtain ⟨rfl, rfl⟩ := hs
    have : us = [] := by cases us with | nil => rfl | cons a l => have := hr.1; simp at this
    subst this
    exact ⟨F, .refl _ _ _, h, rfl, by simp⟩
  | v :: vs, F, H, cs', us, fs, h, hok, hr, hs => by
    simp only [snapL, Option.bind_eq_some_iff, Option.map_eq_some_iff] at hs
    obtain ⟨⟨a, fa⟩, ha, ⟨as, fas⟩, has, he⟩ := hs
    injection he with h1 h2
    subst h1 h2
    cases us with
    | nil => have := hr.1; simp at this
    | cons u us =>
      obtain ⟨F1, hE1, hS1, hT1⟩ := snap1_sound h hok hr.head ha
      have hr2 := hr.tail.mono (.refl ρ) hE1.fle
      obtain ⟨F2, hE2, hS2, hT2⟩ := snapL_sound hS1 (freezeH_ok hok) hr2 (by rw [snapL_freezeH]; exact has)
      exact ⟨F2, hE1.trans hE2, by rw [freezeH_append]; exact hS2, RelTL.cons (hT1.mono hE2.fle) hT2⟩
theorem snap_sound {F : Fz} (h : Sim ρ F H w) (hok : HOk H) {v v' : V} {u : Value} {fs : List (Nat × Nat)} (hr : Rel ρ F v u) (hs : v.snap H = some (v', fs)) :
    ∃ F', Ext ρ F w ρ F' w ∧ Sim ρ F' (freezeH H fs) w ∧ ∀ ρ', Rel ρ' F' v' u := by
  cases v with
  | agg cs =>
    simp only [V.snap, Option.map_eq_some_iff] at hs
    obtain ⟨⟨a, fa⟩, ha, he⟩ := hs
    injection he with h1 h2
    subst h1 h2
    cases hr with
    | t hr => cases hr
    | agg _ us e1 e2 e3 =>
      obtain ⟨F1, hE1, hS1, hT1⟩ := snapL_sound h hok ⟨e1, e2⟩ ha
      exact ⟨F1, hE1, hS1, fun ρ' => .agg _ _ hT1.1 (fun j v u hv hu => .t (hT1.2 j v u hv hu)) (fun v hv => V.cell_of_tree (hT1.trees v hv))⟩
  | sl z b L o n => obtain ⟨F1, a, b, c⟩ := snap1_sound h hok hr hs; exact ⟨F1, a, b, fun _ => .t c⟩
  | bool b => obtain ⟨F1, a, b, c⟩ := snap1_sound h hok hr hs; exact ⟨F1, a, b, fun _ => .t c⟩
  | int k n => obtain ⟨F1, a, b, c⟩ := snap1_sound h hok hr hs; exact ⟨F1, a, b, fun _ => .t c⟩
  | str s => obtain ⟨F1, a, b, c⟩ := snap1_sound h hok hr hs; exact ⟨F1, a, b, fun _ => .t c⟩
  | nilp => obtain ⟨F1, a, b, c⟩ := snap1_sound h hok hr hs; exact ⟨F1, a, b, fun _ => .t c⟩
  | nils => obtain ⟨F1, a, b, c⟩ := snap1_sound h hok hr hs; exact ⟨F1, a, b, fun _ => .t c⟩
  | nilf => obtain ⟨F1, a, b, c⟩ := snap1_sound h hok hr hs; exact ⟨F1, a, b, fun _ => .t c⟩
  | undef => obtain ⟨F1, a, b, c⟩ := snap1_sound h hok hr hs; exact ⟨F1, a, b, fun _ => .t c⟩
  | ptr b L i o => obtain ⟨F1, a, b, c⟩ := snap1_sound h hok hr hs; exact ⟨F1, a, b, fun _ => .t c⟩
  | tsl z es => obtain ⟨F1, a, b, c⟩ := snap1_sound h hok hr hs; exact ⟨F1, a, b, fun _ => .t c⟩
  | tptr cs o => obtain ⟨F1, a, b, c⟩ := snap1_sound h hok hr hs; exact ⟨F1, a, b, fun _ => .t c⟩
  | tup cs => obtain ⟨F1, a, b, c⟩ := snap1_sound h hok hr hs; exact ⟨F1, a, b, fun _ => .t c⟩
  | fn f cs => obtain ⟨F1, a, b, c⟩ := snap1_sound h hok hr hs; exact ⟨F1, a, b, fun _ => .t c⟩
  | mp b => obtain ⟨F1, a, b, c⟩ := snap1_sound h hok hr hs; exact ⟨F1, a, b, fun _ => .t c⟩
theorem snapA_sound : ∀ {cs : List V} {F : Fz} {H : Heap} {cs' : List V} {us : List Value} {fs : List (Nat × Nat)}, Sim ρ F H w → HOk H → RelL ρ F cs us → snapA H cs = some (cs', fs) →
    ∃ F', Ext ρ F w ρ F' w ∧ Sim ρ F' (freezeH H fs) w ∧ ∀ ρ', RelL ρ' F' cs' us
  | [], F, H, cs', us, fs, h, hok, hr, hs => by
    simp only [snapA, Option.some.injEq, Prod.mk.injEq] at hs
    obtain ⟨rfl, rfl⟩ := hs
    have : us = [] := by cases us with | nil => rfl | cons a l => have := hr.1; simp at this
    subst this
    exact ⟨F, .refl _ _ _, h, fun ρ' => RelL.nil⟩
  | v :: vs, F, H, cs', us, fs, h, hok, hr, hs => by
    simp only [snapA, Option.bind_eq_some_iff, Option.map_eq_some_iff] at hs
    obtain ⟨⟨a, fa⟩, ha, ⟨as, fas⟩, has, he⟩ := hs
    injection he with h1 h2
    subst h1 h2
    cases us with
    | nil => have := hr.1; simp at this
    | cons u us =>
      obtain ⟨F1, hE1, hS1, hT1⟩ := snap_sound h hok hr.head ha
      have hr2 := hr.tail.mono (.refl ρ) hE1.fle
      obtain ⟨F2, hE2, hS2, hT2⟩ := snapA_sound hS1 (freezeH_ok hok) hr2 (by rw [snapA_freezeH]; exact has)
      exact ⟨F2, hE1.trans hE2, by rw [freezeH_append]; exact hS2, fun ρ' => RelL.cons ((hT1 ρ').mono (.refl _) hE2.fle) (hT2 ρ')⟩
end
end Go.AM
