/- The reference's Pareto set is the program's. -/
import Derived.Test.YtcfijihoepkgeaaRpB
set_option linter.unusedVariables false
set_option linter.unusedSimpArgs false
namespace Go.AM.Ytcfijihoepkgeaa
open Go Go.AM
set_option maxRecDepth 100000
set_option maxHeartbeats 0
theorem keep_iff (l : List Pt) (y : Pt) (i : Nat) : ∀ k, keepN l y i k = true ↔ ∀ j x, j < k → l[j]? = some x → condP x y j i = false
  | 0 => by simp [keepN]
  | k + 1 => by
    rw [keepN, Bool.and_eq_true, keep_iff l y i k]
    constructor
    · rintro ⟨h1, h2⟩ j x hj hx
      rcases Nat.lt_or_eq_of_le (Nat.le_of_lt_succ hj) with h | rfl
      · exact h1 j x h hx
      · rw [hx] at h2
        simpa using h2
    · intro h
      refine ⟨fun j x hj hx => h j x (by omega) hx, ?_⟩
      cases hx : l[k]? with
      | none => rfl
      | some x => simp [h k x (by omega) hx]
theorem mem_insP {o : List Pt} {p x : Pt} : x ∈ insP o p ↔ x = p ∨ x ∈ o := by
  unfold insP
  have h := List.take_append_drop (placeP o p) o
  constructor
  · intro hx
    rcases List.mem_append.mp hx with hx | hx
    · exact Or.inr (List.mem_of_mem_take hx)
    · rcases List.mem_cons.mp hx with hx | hx
      · exact Or.inl hx
      · exact Or.inr (List.mem_of_mem_drop hx)
  · rintro (rfl | hx)
    · simp
    · rw [← h] at hx
      rcases List.mem_append.mp hx with hx | hx
      · exact List.mem_append_left _ hx
      · exact List.mem_append_right _ (List.mem_cons_of_mem _ hx)
theorem insP_perm (o : List Pt) (p : Pt) : (insP o p).Perm (p :: o) := by
  unfold insP
  have := List.perm_middle (a := p) (l₁ := o.take (placeP o p)) (l₂ := o.drop (placeP o p))
  rwa [List.take_append_drop] at this
theorem srt_insP {o : List Pt} (p : Pt) (h : Srt o) : Srt (insP o p) := by
  have h0 := List.take_append_drop (placeP o p) o
  have h' := h
  rw [← h0] at h'
  obtain ⟨h1, h2, h3⟩ := List.pairwise_append.mp h'
  have g1 : ∀ x ∈ o.take (placeP o p), leP x p := by
    intro x hx
    obtain ⟨i, hi, hx'⟩ := mem_take_get hx
    obtain ⟨hio, rfl⟩ := List.getElem?_eq_some_iff.mp hx'
    have := List.not_of_lt_findIdx (p := fun q => !lessB q p) (xs := o) hi
    have hl : lessB o[i] p = true := by simpa using this
    exact ltP_le ((lessB_iff _ _).mp hl)
  have g2 : ∀ x ∈ o.drop (placeP o p), leP p x := by
    intro x hx
    obtain ⟨i, hi, hx'⟩ := mem_drop_get hx
    obtain ⟨hio, rfl⟩ := List.getElem?_eq_some_iff.mp hx'
    have hlt : placeP o p < o.length := by omega
    have hh : (!lessB (o[placeP o p]) p) = true := List.findIdx_getElem (p := fun q => !lessB q p) (xs := o) (w := hlt)
    have hn : ¬ ltP o[placeP o p] p := by
      rw [← lessB_iff]
      intro h'
      rw [h'] at hh
      cases hh
    exact leP_trans hn (srt_get h hi (List.getElem?_eq_getElem hlt) hx')
  unfold insP
  refine List.pairwise_append.mpr ⟨h1, List.pairwise_cons.mpr ⟨g2, h2⟩, fun u hu v hv => ?_⟩
  rcases List.mem_cons.mp hv with rfl | hv
  · exact g1 u hu
  · exact h3 u hu v hv
structure RInv (l : List Pt) (i : Nat) : Prop where
  mem : ∀ x, x ∈ refN l i ↔ ∃ j, j < i ∧ l[j]? = some x ∧ keepN l x j l.length = true
  srt : Srt (refN l i)
  dis : (refN l i).Pairwise fun p q => eqP p q = false
theorem eqP_symm {p q : Pt} (h : eqP p q = true) : eqP q p = true := by rw [eqP_iff] at *; omega
theorem keep_dis {l : List Pt} {i j : Nat} {x y : Pt} (hij : j < i) (hx : l[j]? = some x) (hy : l[i]? = some y) (kx : keepN l x j l.length = true) (ky : keepN l y i l.length = true) : eqP x y = false := by
  rw [Bool.eq_false_iff]
  intro he
  have hj := (List.getElem?_eq_some_iff.mp hx).1
  have hi := (List.getElem?_eq_some_iff.mp hy).1
  have h1 := (keep_iff l x j l.length).mp kx i y hi hy
  have h2 := (keep_iff l y i l.length).mp ky j x hj hx
  have he' := eqP_symm he
  simp [condP, he, he', hij] at h1 h2
  omega
theorem refInv (l : List Pt) : ∀ i, RInv l i
  | 0 => ⟨by simp [refN], List.Pairwise.nil, List.Pairwise.nil⟩
  | i + 1 => by
    have ih := refInv l i
    have step : ∀ x, (∃ j, j < i + 1 ∧ l[j]? = some x ∧ keepN l x j l.length = true) ↔ (∃ j, j < i ∧ l[j]? = some x ∧ keepN l x j l.length = true) ∨ (l[i]? = some x ∧ keepN l x i l.length = true) := by
      intro x
      constructor
      · rintro ⟨j, hj, h1, h2⟩
        rcases Nat.lt_or_eq_of_le (Nat.le_of_lt_succ hj) with h | rfl
        · exact Or.inl ⟨j, h, h1, h2⟩
        · exact Or.inr ⟨h1, h2⟩
      · rintro (⟨j, hj, h⟩ | h)
        · exact ⟨j, by omega, h⟩
        · exact ⟨i, by omega, h⟩
    cases hy : l[i]? with
    | none =>
      have e : refN l (i + 1) = refN l i := by simp only [refN, hy]
      refine ⟨fun x => ?_, by rw [e]; exact ih.srt, by rw [e]; exact ih.dis⟩
      rw [e, ih.mem x, step x, hy]
      simp
    | some y =>
      cases hk : keepN l y i l.length with
      | false =>
        have e : refN l (i + 1) = refN l i := by simp only [refN, hy, hk]; rfl
        refine ⟨fun x => ?_, by rw [e]; exact ih.srt, by rw [e]; exact ih.dis⟩
        rw [e, ih.mem x, step x, hy]
        constructor
        · exact Or.inl
        · rintro (h | ⟨h1, h2⟩)
          · exact h
          · cases h1
            rw [hk] at h2
            cases h2
      | true =>
        have e : refN l (i + 1) = insP (refN l i) y := by simp only [refN, hy, hk]; rfl
        refine ⟨fun x => ?_, by rw [e]; exact srt_insP y ih.srt, ?_⟩
        · rw [e, mem_insP, ih.mem x, step x, hy]
          constructor
          · rintro (rfl | h)
            · exact Or.inr ⟨rfl, hk⟩
            · exact Or.inl h
          · rintro (h | ⟨h1, _⟩)
            · exact Or.inr h
            · cases h1; exact Or.inl rfl
        · rw [e]
          refine (insP_perm (refN l i) y).symm.pairwise (List.pairwise_cons.mpr ⟨fun x hx => ?_, ih.dis⟩) (fun {a b} h => ?_)
          · obtain ⟨j, hj, h1, h2⟩ := (ih.mem x).mp hx
            have := keep_dis hj h1 hy h2 hk
            rw [Bool.eq_false_iff] at *
            exact fun h => this (eqP_symm h)
          · rw [Bool.eq_false_iff] at *
            exact fun h' => h (eqP_symm h')
theorem keep_val (l : List Pt) (x : Pt) : (∃ j, j < l.length ∧ l[j]? = some x ∧ keepN l x j l.length = true) ↔ x ∈ l ∧ nd l x ∧ ∀ y ∈ l, eqP y x = true → x.ix ≤ y.ix := by
  constructor
  · rintro ⟨j, hj, hx, hk⟩
    have hk := (keep_iff l x j l.length).mp hk
    refine ⟨List.mem_iff_getElem?.mpr ⟨j, hx⟩, fun q hq => ?_, fun y hy he => ?_⟩
    · obtain ⟨k, hk', rfl⟩ := List.getElem_of_mem hq
      have := hk k _ hk' (List.getElem?_eq_getElem hk')
      simp [condP] at this
      exact this.1
    · obtain ⟨k, hk', rfl⟩ := List.getElem_of_mem hy
      have := hk k _ hk' (List.getElem?_eq_getElem hk')
      simp [condP, he] at this
      omega
  · rintro ⟨hx, hn, hm⟩
    -- the first place of x
    have hf : ∃ j : Nat, l[j]? = some x ∧ ∀ k : Nat, k < j → l[k]? ≠ some x := by
      obtain ⟨j, hj⟩ := List.mem_iff_getElem?.mp hx
      induction j using Nat.strongRecOn with
      | ind j ih =>
        by_cases h : ∃ k, k < j ∧ l[k]? = some x
        · obtain ⟨k, hk, hk'⟩ := h
          exact ih k hk hk'
        · exact ⟨j, hj, fun k hk hk' => h ⟨k, hk, hk'⟩⟩
    obtain ⟨j, hj, hfirst⟩ := hf
    refine ⟨j, (List.getElem?_eq_some_iff.mp hj).1, hj, (keep_iff l x j l.length).mpr fun k y hk hy => ?_⟩
    have hym : y ∈ l := List.mem_iff_getElem?.mpr ⟨k, hy⟩
    have h1 := hn y hym
    rw [Bool.eq_false_iff]
    intro hc
    simp only [condP, h1, Bool.false_or, Bool.and_eq_true, Bool.or_eq_true, decide_eq_true_eq] at hc
    obtain ⟨he, hc⟩ := hc
    have := hm y hym he
    rcases hc with hc | ⟨hc, hkj⟩
    · omega
    · apply hfirst k hkj
      rw [hy]
      rw [eqP_iff] at he
      obtain ⟨a, b, c, d⟩ := x
      obtain ⟨a', b', c', d'⟩ := y
      simp only [Option.some.injEq, Pt.mk.injEq]
      simp only at he hc
      omega
theorem par_val {l C : List Pt} (h : Par l l C) (x : Pt) : x ∈ C ↔ x ∈ l ∧ nd l x ∧ ∀ y ∈ l, eqP y x = true → x.ix ≤ y.ix := by
  have ho := own_of_par h
  constructor
  · intro hx
    obtain ⟨h1, h2⟩ := h.mem x hx
    refine ⟨h1, h2, fun y hy he => ?_⟩
    have hny : nd l y := by
      intro q hq
      have := h2 q hq
      rw [Bool.eq_false_iff] at *
      intro h'
      apply this
      rw [domP_iff] at *
      rw [eqP_iff] at he
      omega
    obtain ⟨q, g1, g2, g3⟩ := h.all y hy hny
    have : q = x := own_get ho g1 hx (by rw [eqP_iff] at *; omega)
    rw [← this]
    exact g3
  · rintro ⟨h1, h2, h3⟩
    obtain ⟨q, g1, g2, g3⟩ := h.all x h1 h2
    have h4 := h3 q (h.mem q g1).1 (eqP_symm g2)
    have : x = q := by
      rw [eqP_iff] at g2
      obtain ⟨a, b, c, d⟩ := x
      obtain ⟨a', b', c', d'⟩ := q
      simp only [Pt.mk.injEq]
      simp only at g2 g3 h4
      omega
    rw [this]
    exact g1
theorem dis_nodup {l : List Pt} (h : l.Pairwise fun p q => eqP p q = false) : l.Nodup := by
  refine h.imp fun {a b} h => ?_
  rintro rfl
  rw [Bool.eq_false_iff] at h
  exact h (by simp [eqP])
/-- the two sets are the same list -/
theorem ref_par {l C : List Pt} (h : Par l l C) (hs : Srt C) : refN l l.length = C := by
  have hi := refInv l l.length
  have hp : (refN l l.length).Perm C := (List.perm_ext_iff_of_nodup (dis_nodup hi.dis) (dis_nodup h.dis)).mpr fun x => by
    rw [hi.mem x, keep_val, par_val h]
  exact srt_unique (own_of_par h) hp hs hi.srt
end Go.AM.Ytcfijihoepkgeaa
