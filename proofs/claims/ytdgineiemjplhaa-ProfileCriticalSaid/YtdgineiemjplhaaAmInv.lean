/- Rules for loops whose states are known by a property alone. -/
import Derived.Test.YtdgineiemjplhaaAmSim
set_option linter.unusedVariables false
set_option linter.unusedSimpArgs false
namespace Go.AM
open Go
section
variable {pre : St → Option St} {f : St → Option (Ex × St)}
theorem iter_go {k : Nat} {s t t' : St} {r : Option (Ex × St)} (h : pre s = some t) (hn : kNext pre (f t) = some t') (hr : ∀ s', pre s' = some t' → iter pre f k s' = r) : iter pre f (k + 1) s = r := by
  obtain ⟨s', h1, h2⟩ := kNext_some hn
  rw [iter, h, Option.bind_some, h1, Option.bind_some]
  exact hr s' h2
theorem iter_end {k : Nat} {s t : St} {x : Ex × St} (h : pre s = some t) (he : f t = some x) (hx : x.1 ≠ .normal) : iter pre f (k + 1) s = some x := by
  rw [iter, h, Option.bind_some, he, Option.bind_some]
  obtain ⟨e, s⟩ := x
  cases e <;> simp_all
/-- a loop that counts from j to N; a round goes on or leaves -/
theorem iter_inv (I : Nat → St → Prop) (Q : Ex × St → Prop) (N : Nat)
    (hs : ∀ j t, j < N → I j t → (∃ t', kNext pre (f t) = some t' ∧ I (j + 1) t') ∨ ∃ r, f t = some r ∧ r.1 ≠ .normal ∧ Q r)
    (he : ∀ t, I N t → ∃ r, f t = some r ∧ r.1 ≠ .normal ∧ Q r) :
    ∀ (m j : Nat) (t : St), j + m = N → I j t → ∃ r, Q r ∧ ∀ s M, m < M → pre s = some t → iter pre f M s = some r
  | 0, j, t, hj, hI => by
    obtain rfl : j = N := hj
    obtain ⟨r, h1, h2, h3⟩ := he t hI
    refine ⟨r, h3, fun s M hM hs' => ?_⟩
    obtain ⟨M, rfl⟩ : ∃ M', M = M' + 1 := ⟨M - 1, by omega⟩
    exact iter_end hs' h1 h2
  | m + 1, j, t, hj, hI => by
    rcases hs j t (by omega) hI with ⟨t', h1, h2⟩ | ⟨r, h1, h2, h3⟩
    · obtain ⟨r, g1, g2⟩ := iter_inv I Q N hs he m (j + 1) t' (by omega) h2
      refine ⟨r, g1, fun s M hM hs' => ?_⟩
      obtain ⟨M, rfl⟩ : ∃ M', M = M' + 1 := ⟨M - 1, by omega⟩
      exact iter_go hs' h1 fun s' hs'' => g2 s' M (by omega) hs''
    · refine ⟨r, h3, fun s M hM hs' => ?_⟩
      obtain ⟨M, rfl⟩ : ∃ M', M = M' + 1 := ⟨M - 1, by omega⟩
      exact iter_end hs' h1 h2
/-- a loop that looks at one after another, and returns false at the first one that is not right -/
theorem all_loop (T : Nat → St) (ok : Nat → Bool) (n slot : Nat) (H : Heap) (e : Ex × St) (hs : ∀ j, j < n → ok j = true → kNext pre (f (T j)) = some (T (j + 1)))
    (hr : ∀ j, j < n → ok j = false → ∃ fr d, f (T j) = some (.ret, ⟨fr, H, d⟩) ∧ fr.getD slot .undef = .bool false) (he : f (T n) = some e) (hn : e.1 ≠ .normal) :
    ∃ r, ((r = e ∧ ∀ j, j < n → ok j = true) ∨ (∃ fr d, r = (.ret, ⟨fr, H, d⟩) ∧ fr.getD slot .undef = .bool false ∧ ∃ j, j < n ∧ ok j = false)) ∧ ∀ s M, n < M → pre s = some (T 0) → iter pre f M s = some r := by
  have key : ∀ (m j : Nat), j + m = n → (∀ i, i < j → ok i = true) → ∃ r, ((r = e ∧ ∀ j, j < n → ok j = true) ∨ (∃ fr d, r = (.ret, ⟨fr, H, d⟩) ∧ fr.getD slot .undef = .bool false ∧ ∃ j, j < n ∧ ok j = false)) ∧ ∀ s M, m < M → pre s = some (T j) → iter pre f M s = some r := by
    intro m
    induction m with
    | zero =>
      intro j hj hok
      obtain rfl : j = n := hj
      refine ⟨e, .inl ⟨rfl, hok⟩, fun s M hM h => ?_⟩
      obtain ⟨M, rfl⟩ : ∃ M', M = M' + 1 := ⟨M - 1, by omega⟩
      exact iter_end h he hn
    | succ m ih =>
      intro j hj hok
      cases hj' : ok j with
      | true =>
        obtain ⟨r, h1, h2⟩ := ih (j + 1) (by omega) (fun i hi => by
          rcases Nat.lt_or_eq_of_le (Nat.le_of_lt_succ hi) with h | rfl
          · exact hok i h
          · exact hj')
        refine ⟨r, h1, fun s M hM h => ?_⟩
        obtain ⟨M, rfl⟩ : ∃ M', M = M' + 1 := ⟨M - 1, by omega⟩
        exact iter_go h (hs j (by omega) hj') fun s' hs' => h2 s' M (by omega) hs'
      | false =>
        obtain ⟨fr, d, h1, h2⟩ := hr j (by omega) hj'
        refine ⟨_, .inr ⟨fr, d, rfl, h2, j, by omega, hj'⟩, fun s M hM h => ?_⟩
        obtain ⟨M, rfl⟩ : ∃ M', M = M' + 1 := ⟨M - 1, by omega⟩
        exact iter_end h h1 (by simp)
  obtain ⟨r, h1, h2⟩ := key n 0 (by omega) (by omega)
  exact ⟨r, h1, h2⟩
/-- a result that is one slot -/
theorem fin_tree {rs : List Rv} {fr : List V} {H : Heap} {d : Bool} {m : Nat} {v : V} (hr : rs = [.t m]) (h : fr.getD m .undef = v) (hv : v.tree = true) : finish 0 rs ⟨fr, H, d⟩ = some (v, [], d) := by
  subst hr
  simp only [finish, resV, Option.map_some, Option.bind_some, h, packV]
  have h1 : v.refs = [] := refs_tree hv
  have h2 : v.ren (place []) = some v := ren_tree hv
  simp [h1, h2, upRefs, reach, pickH]
/-- a slice that is read: nil, or its rows -/
def Sl (z : Nat) (es : List (List V)) (v : V) : Prop := (v = .nils ∧ es = []) ∨ v = .tsl z es
theorem Sl.tree {z : Nat} {es : List (List V)} {v : V} (h : Sl z es v) : v.tree = true := by rcases h with ⟨rfl, _⟩ | rfl <;> rfl
theorem Sl.cell {z : Nat} {es : List (List V)} {v : V} (h : Sl z es v) : v.cell = true := by rcases h with ⟨rfl, _⟩ | rfl <;> rfl
theorem Sl.lst {z : Nat} {es : List (List V)} {v : V} (h : Sl z es v) : v.lst = true := by rcases h with ⟨rfl, _⟩ | rfl <;> rfl
theorem Sl.len {z : Nat} {es : List (List V)} {v : V} (h : Sl z es v) : lenV v = es.length := by rcases h with ⟨rfl, rfl⟩ | rfl <;> rfl
theorem Sl.tsl {z : Nat} {es : List (List V)} {v : V} (h : Sl z es v) {i : Nat} (hi : i < es.length) : v = .tsl z es := by
  rcases h with ⟨_, rfl⟩ | h
  · simp at hi
  · exact h
end
end Go.AM
