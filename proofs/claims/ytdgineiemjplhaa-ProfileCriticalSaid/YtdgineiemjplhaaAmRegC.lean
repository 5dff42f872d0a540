/- Regions in any order: parts of a heap; what the order of the operations is known to be. -/
import Derived.Test.YtdgineiemjplhaaAmRegB
set_option linter.unusedVariables false
set_option linter.unusedSimpArgs false
namespace Go.AM
open Go Go.RowKit

section
variable {ρ ρ' : Rho} {F F' : Fz} {A X B H : Heap} {w w' : World}

theorem refsL_mem : ∀ {cs : List V} {b : Nat}, b ∈ refsL cs ↔ ∃ v ∈ cs, b ∈ v.refs
  | [], b => by simp [refsL]
  | v :: vs, b => by simp [refsL, refsL_mem (cs := vs)]
theorem Rel.refs {v : V} {u : Value} (h : Rel ρ F v u) : ∀ b ∈ v.refs, ∃ L r, ρ b L = some r := by
  have tr : ∀ {v : V}, v.tree = true → v.refs = [] := by
    intro v hv
    cases v with
    | fn f cs => cases cs <;> simp_all [V.tree, V.refs, refsL]
    | _ => simp_all [V.tree, V.refs]
  induction h with
  | t h => intro b hb; rw [tr h.tree] at hb; cases hb
  | undef u => intro b hb; simp [V.refs] at hb
  | ptr b L i o r h => intro b' hb; simp [V.refs] at hb; subst hb; exact ⟨L, r, h⟩
  | sl b L o n c r h h1 h2 h3 => intro b' hb; simp [V.refs] at hb; subst hb; exact ⟨L, r, h⟩
  | mp b r h h1 => intro b' hb; simp [V.refs] at hb; subst hb; exact ⟨0, r, h⟩
  | fn f cs us h1 h2 ih =>
    intro b hb
    simp only [V.refs] at hb
    obtain ⟨v, hv, hb⟩ := refsL_mem.1 hb
    obtain ⟨j, hj⟩ := List.mem_iff_getElem?.1 hv
    have hj' : j < us.length := by rw [← h1]; exact (List.getElem?_eq_some_iff.1 hj).1
    exact ih j v us[j] hj (List.getElem?_eq_getElem hj') b hb
  | agg cs us h1 h2 h3 ih =>
    intro b hb
    simp only [V.refs] at hb
    obtain ⟨v, hv, hb⟩ := refsL_mem.1 hb
    obtain ⟨j, hj⟩ := List.mem_iff_getElem?.1 hv
    have hj' : j < us.length := by rw [← h1]; exact (List.getElem?_eq_some_iff.1 hj).1
    exact ih j v us[j] hj (List.getElem?_eq_getElem hj') b hb
  | tup cs us h1 h2 ih =>
    intro b hb
    simp only [V.refs] at hb
    obtain ⟨v, hv, hb⟩ := refsL_mem.1 hb
    obtain ⟨j, hj⟩ := List.mem_iff_getElem?.1 hv
    have hj' : j < us.length := by rw [← h1]; exact (List.getElem?_eq_some_iff.1 hj).1
    exact ih j v us[j] hj (List.getElem?_eq_getElem hj') b hb
end

/-! ### What waits for what -/
def ancBits (acc : List Nat) (o : Oper) : Nat := (o.after.toList.filter (fun e => Region.binds .any e)).foldl (fun s e => (2 ^ e.on ||| acc.getD e.on 0) ||| s) 0
theorem ancBits_bit (acc : List Nat) (j : Nat) : ∀ (es : List Edge) (s : Nat), ((es.foldl (fun s e => (2 ^ e.on ||| acc.getD e.on 0) ||| s) s).testBit j = true ↔ s.testBit j = true ∨ ∃ e ∈ es, e.on = j ∨ (acc.getD e.on 0).testBit j = true)
  | [], s => by simp
  | e :: es, s => by
    rw [List.foldl_cons, ancBits_bit acc j es]
    simp only [Nat.testBit_or, Nat.testBit_two_pow, Bool.or_eq_true, decide_eq_true_eq, List.mem_cons, exists_eq_or_imp]
    constructor
    · rintro ((h | h) | h)
      · exact .inr (.inl h)
      · exact .inl h
      · exact .inr (.inr h)
    · rintro (h | h | h)
      · exact .inl (.inr h)
      · exact .inl (.inl h)
      · exact .inr h
theorem ancOf_snoc (l : List Oper) (o : Oper) : ancOf (l ++ [o]) = ancOf l ++ [ancBits (ancOf l) o] := by
  unfold ancOf
  rw [List.foldl_append]
  rfl
theorem snocInd {α : Type} {motive : List α → Prop} (nil : motive []) (snoc : ∀ l a, motive l → motive (l ++ [a])) (l : List α) : motive l := by
  generalize hn : l.length = n
  induction n generalizing l with
  | zero => rw [List.length_eq_zero_iff.1 hn]; exact nil
  | succ n ih =>
    rcases List.eq_nil_or_concat l with rfl | ⟨m, a, rfl⟩
    · exact nil
    · rw [List.concat_eq_append] at hn ⊢
      exact snoc m a (ih m (by simpa using hn))
theorem ancOf_len (l : List Oper) : (ancOf l).length = l.length := by
  refine snocInd (motive := fun l => (ancOf l).length = l.length) rfl (fun l o ih => ?_) l
  rw [ancOf_snoc]; simp [ih]
theorem ancOf_get (l : List Oper) : ∀ (i : Nat) (o : Oper), l[i]? = some o → (ancOf l)[i]? = some (ancBits ((ancOf l).take i) o) := by
  refine snocInd (motive := fun l => ∀ (i : Nat) (o : Oper), l[i]? = some o → (ancOf l)[i]? = some (ancBits ((ancOf l).take i) o)) ?_ (fun l o ih => ?_) l
  · intro i o h; simp at h
  · intro i o' h
    rw [ancOf_snoc]
    by_cases hi : i < l.length
    · rw [List.getElem?_append_left hi] at h
      rw [List.getElem?_append_left (by rw [ancOf_len]; exact hi), List.take_append_of_le_length (by rw [ancOf_len]; omega)]
      exact ih i o' h
    · rw [List.getElem?_append_right (by omega)] at h
      have hi' : i = l.length := by
        have := (List.getElem?_eq_some_iff.1 h).1
        simp at this; omega
      subst hi'
      simp at h
      subst h
      rw [List.getElem?_append_right (by rw [ancOf_len]; omega)]
      simp [ancOf_len]
/-- whoever comes before operation i: an operation that i waits for, or one that such a one waits for -/
theorem anc_inv {l : List Oper} {i j : Nat} {o : Oper} (ho : l[i]? = some o) (h : ((ancOf l).getD i 0).testBit j = true) : ∃ e ∈ o.after, Region.binds .any e = true ∧ (e.on = j ∨ ((ancOf l).getD e.on 0).testBit j = true) := by
  have hg := ancOf_get l i o ho
  rw [List.getD, hg, Option.getD_some, ancBits, ancBits_bit] at h
  rcases h with h | ⟨e, he, h⟩
  · simp at h
  · simp only [List.mem_filter, Array.mem_toList_iff] at he
    refine ⟨e, he.1, he.2, h.imp id fun h => ?_⟩
    simp only [List.getD, List.getElem?_take] at h ⊢
    split at h
    · exact h
    · simp at h
theorem anc_dir {l : List Oper} {i : Nat} {o : Oper} {e : Edge} (ho : l[i]? = some o) (he : e ∈ o.after) (hb : Region.binds .any e = true) : ((ancOf l).getD i 0).testBit e.on = true := by
  have hg := ancOf_get l i o ho
  rw [List.getD, hg, Option.getD_some, ancBits, ancBits_bit]
  exact .inr ⟨e, by simp [he, hb], .inl rfl⟩
theorem drawOne_spec {anc : List Nat} {i : Nat} {dst : Option Nat} {rs : List Nat} : ∀ {os : List O} {k : Nat}, drawOne anc i dst rs k os = true → ∀ (j : Nat) (o : O), os[j]? = some o → k + j ≠ i → ∀ t, o.dst = some t → dst ≠ some t ∧ (t ∈ rs → cmpA anc i (k + j) = true)
  | [], k, h, j, o, ho => by simp at ho
  | x :: os, k, h, j, o, ho => by
    simp only [drawOne, Bool.and_eq_true] at h
    cases j with
    | zero =>
      simp at ho
      subst ho
      intro hne t ht
      have h1 := h.1
      rw [ht] at h1
      simp only [Bool.or_eq_true, beq_iff_eq, Bool.and_eq_true, bne_iff_ne, ne_eq, Bool.not_eq_true'] at h1
      rcases h1 with h1 | ⟨h1, h2⟩
      · omega
      · refine ⟨h1, fun hm => ?_⟩
        rcases h2 with h2 | h2
        · rw [List.contains_iff_mem.2 hm] at h2; cases h2
        · exact h2
    | succ j =>
      intro hne t ht
      have := drawOne_spec h.2 j o (by simpa using ho) (by omega) t ht
      rw [show k + (j + 1) = k + 1 + j by omega]
      exact this
theorem drawGo_spec {anc : List Nat} {ops : List O} : ∀ {os : List O} {k : Nat}, drawGo anc ops k os = true → ∀ (i : Nat) (o : O), os[i]? = some o → anc.getD (k + i) 0 < 2 ^ (k + i) ∧ drawOne anc (k + i) o.dst o.reads 0 ops = true
  | [], k, h, i, o, ho => by simp at ho
  | x :: os, k, h, i, o, ho => by
    simp only [drawGo, Bool.and_eq_true, decide_eq_true_eq] at h
    cases i with
    | zero => simp at ho; subst ho; exact ⟨h.1.1, h.1.2⟩
    | succ i =>
      have := drawGo_spec h.2 i o (by simpa using ho)
      rw [show k + (i + 1) = k + 1 + i by omega]
      exact this
theorem bit_lt {a i j : Nat} (h : a < 2 ^ i) (hb : a.testBit j = true) : j < i := by
  by_cases hji : j < i
  · exact hji
  · have : a.testBit j = false := Nat.testBit_lt_two_pow (Nat.lt_of_lt_of_le h (Nat.pow_le_pow_right (by omega) (by omega)))
    rw [this] at hb
    cases hb

/-- the run in the text's order, state by state -/
theorem execOpsW_seq {call : CallT} {pure : FuncId → Bool} : ∀ {os : List O} {k : Nat} {s s' : St} {log : List Lg}, execOpsW call pure k os s = some (s', log) → ∃ S : Nat → St, S 0 = s ∧ S os.length = s' ∧ (∀ x ∈ log, k ≤ x.1) ∧
    ∀ (i : Nat) (o : O), os[i]? = some o → ∃ v e, execV call pure o (S i).fr (S i).H = some (v, e) ∧ S (i + 1) = ⟨putV (S i).fr o.dst v, e.heap (S i).H, (S i).d || e.wr⟩ ∧ (∀ b bs, (k + i, b, bs) ∈ log ↔ (k + i, b, bs) ∈ lgE (k + i) (o.i.rdB (S i).fr) e)
  | [], k, s, s', log, h => by
    simp only [execOpsW, Option.some.injEq, Prod.mk.injEq] at h
    obtain ⟨rfl, rfl⟩ := h
    exact ⟨fun _ => s, rfl, rfl, by simp, by simp⟩
  | o :: os, k, s, s', log, h => by
    simp only [execOpsW, Option.bind_eq_some_iff, Option.map_eq_some_iff] at h
    obtain ⟨⟨v, e⟩, h1, ⟨s2, w2⟩, h2, he⟩ := h
    injection he with e1 e2
    subst e1 e2
    obtain ⟨S, g1, g2, g3, g4⟩ := execOpsW_seq h2
    have hlg : ∀ x ∈ lgE k (o.i.rdB s.fr) e, x.1 = k := by
      intro x hx
      cases e with
      | new l =>
        simp only [lgE] at hx
        split at hx
        · cases hx
        · simp at hx; rw [hx]
      | upd H ids => simp [lgE] at hx; rw [hx]
    refine ⟨fun i => match i with | 0 => s | i + 1 => S i, rfl, g2, fun x hx => ?_, fun i o' ho => ?_⟩
    · rcases List.mem_append.1 hx with h | h
      · exact Nat.le_of_eq (hlg x h).symm
      · have := g3 x h; omega
    · cases i with
      | zero =>
        simp at ho
        subst ho
        refine ⟨v, e, h1, g1, fun b bs => ?_⟩
        simp only [Nat.add_zero, List.mem_append]
        constructor
        · rintro (h | h)
          · exact h
          · have := g3 _ h; simp at this; omega
        · exact .inl
      | succ i =>
        obtain ⟨v', e', q1, q2, q3⟩ := g4 i o' (by simpa using ho)
        refine ⟨v', e', q1, q2, fun b bs => ?_⟩
        rw [show k + (i + 1) = k + 1 + i by omega, ← q3]
        simp only [List.mem_append]
        constructor
        · rintro (h | h)
          · have := hlg _ h; simp at this; omega
          · exact h
        · exact .inr
theorem compOps_get {P : Program} {l : List Oper} : ∀ {ls : List Oper} {os : List O}, compOps P l ls = some os → os.length = ls.length ∧ ∀ (i : Nat) (o : Oper), ls[i]? = some o → ∃ o', os[i]? = some o' ∧ compOper P l o = some o'
  | [], os, h => by simp [compOps] at h; subst h; simp
  | x :: ls, os, h => by
    simp only [compOps, Option.bind_eq_some_iff, Option.map_eq_some_iff] at h
    obtain ⟨a, ha, as, has, rfl⟩ := h
    obtain ⟨h1, h2⟩ := compOps_get has
    refine ⟨by simp [h1], fun i o ho => ?_⟩
    cases i with
    | zero => simp at ho; subst ho; exact ⟨a, rfl, ha⟩
    | succ i => simpa using h2 i o (by simpa using ho)
end Go.AM
