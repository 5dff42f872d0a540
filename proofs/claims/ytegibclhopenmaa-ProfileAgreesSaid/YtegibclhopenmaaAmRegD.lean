/- Regions: in line, and in any order. -/
import Derived.Test.YtegibclhopenmaaAmRegC
set_option linter.unusedVariables false
set_option linter.unusedSimpArgs false
namespace Go.AM
open Go Go.RowKit

section
variable {P : Program} {ρ ρ0 : Rho} {F F0 : Fz} {H Hs : Heap} {w w0 : World} {fr : List V} {a : Act} {call : CallT} {pure : FuncId → Bool} {s s' : St} {Q : Exit → Act → World → Prop}

theorem ops_sound (hcall : CallOk P call) {ops : Array Oper} {l : List Oper} (hl : ops.toList = l) (hQ : ∀ a' w', Inv Hs ρ0 F0 w0 s' a' w' → Q .normal a' w') : ∀ {ls : List Oper} {os : List O} {s : St} {a : Act} {w : World}, compOps P l ls = some os → execOps call pure os s = some s' → Inv Hs ρ0 F0 w0 s a w → wpList P ops Q ls a w
  | [], os, s, a, w, hc, hx, h => by
    simp [compOps] at hc
    subst hc
    simp [execOps] at hx
    subst hx
    exact hQ _ _ h
  | o :: ls, os, s, a, w, hc, hx, h => by
    simp only [compOps, Option.bind_eq_some_iff, Option.map_eq_some_iff] at hc
    obtain ⟨o', ho, os', hos, rfl⟩ := hc
    simp only [execOps, Option.bind_eq_some_iff] at hx
    obtain ⟨⟨s1, wr⟩, h1, h2⟩ := hx
    have := h.step hcall hl ho h1 (K := wpList P ops Q ls) (Q := Q) (fun a' w' hi => ops_sound hcall hl hQ hos h2 hi)
    unfold wpList
    split
    · rename_i hw; rw [if_pos hw] at this; exact .inl this
    · rename_i hw; rw [if_neg hw] at this; exact this
theorem reg_sound (hcall : CallOk P call) (h : Inv Hs ρ0 F0 w0 s a w) {id : Nat} {ops : Array Oper} {os : List O} (hc : compOps P ops.toList ops.toList = some os) (hx : execOps call pure os s = some s') (hQ : ∀ a' w', Inv Hs ρ0 F0 w0 s' a' w' → Q .normal a' w') : (Code.region id ops false).wp P Q a w :=
  wp_region_list (ops_sound hcall rfl hQ hc hx h)

/-! ### In any order -/
theorem Inv.drawn (h : Inv Hs ρ0 F0 w0 s a w) (n : Nat) : Inv Hs ρ0 F0 w0 s a { w with drawn := n } := by
  obtain ⟨ρ, F, hE, hS, hF, hD⟩ := h.ex
  exact ⟨h.ok, h.len, h.same, h.df, ρ, F, ⟨hE.os, hE.tape, hE.output, hE.size, hE.keep, hE.rho, hE.new, hE.fle, hE.fnew⟩, ⟨hS.img, hS.blk, hS.fz, hS.len, hS.inj, hS.frz, hS.mp⟩, hF, hD⟩

theorem ld_append {H l : Heap} {n : Option Nat} {x v : V} (h : ldPl H n x = some v) : ldPl (H ++ l) n x = some v := by
  cases x <;> simp only [ldPl] at h ⊢ <;> first | exact h | (cases h; done) | skip
  simp only [Option.bind_eq_some_iff] at h ⊢
  obtain ⟨k, hk, h⟩ := h
  exact ⟨k, by rw [List.getElem?_append_left (List.getElem?_eq_some_iff.1 hk).1]; exact hk, h⟩
theorem ld_front {H l : Heap} {n : Option Nat} {x v : V} (h : ldPl (H ++ l) n x = some v) (hb : ∀ b ∈ x.refs, b < H.length) : ldPl H n x = some v := by
  cases x <;> simp only [ldPl] at h ⊢ <;> first | exact h | (cases h; done) | skip
  rename_i b L i o
  rw [List.getElem?_append_left (hb b (by simp [V.refs]))] at h
  exact h
/-- what neither makes nor writes memory nor calls: a look at memory, or not even that -/
theorem lite_new {i : I} (hl : i.heavy = false) {v : V} {e : Eff} (h : execI call pure fr H i = some (v, e)) : e = .new [] := by
  by_cases hp : i.pure = true
  · exact (execI_pure hp h).1
  · cases i <;> simp [I.pure] at hp <;> try (simp [I.heavy] at hl; done)
    simp only [execI, Option.map_eq_some_iff, Prod.mk.injEq] at h
    obtain ⟨_, _, _, rfl⟩ := h
    rfl
theorem freezeH_keep : ∀ {fs : List (Nat × Nat)} {H : Heap} {b : Nat}, b ∉ fs.map (·.1) → (freezeH H fs)[b]? = H[b]?
  | [], H, b, h => rfl
  | (c, n) :: fs, H, b, h => by
    simp only [List.map_cons, List.mem_cons, not_or] at h
    simp only [freezeH]
    rw [freezeH_keep h.2, List.getElem?_modify]
    have : c ≠ b := fun e => h.1 e.symm
    simp [this]
theorem frz_keep {H H' : Heap} {ids : List Nat} {fs : List (Nat × Nat)} {l : List Blk} (h : Eff.frz H fs l = .upd H' ids) : ∀ b, b < H.length → b ∉ ids → H'[b]? = H[b]? := by
  intro b hb hn
  cases fs with
  | nil => cases h
  | cons f fs =>
    simp only [Eff.frz, Eff.upd.injEq] at h
    obtain ⟨rfl, rfl⟩ := h
    rw [List.getElem?_append_left (by rw [freezeH_len]; exact hb), freezeH_keep hn]
theorem putBack_keep {Hn : Heap} : ∀ {ids : List Nat} {i : Nat} {H : Heap} {b : Nat}, b ∉ ids → (putBack Hn i ids H)[b]? = H[b]?
  | [], i, H, b, h => rfl
  | c :: ids, i, H, b, h => by
    simp only [List.mem_cons, not_or] at h
    rw [putBack, putBack_keep h.2, List.getElem?_set_ne (Ne.symm h.1)]
/-- what an operation does not say that it wrote stays as it was -/
theorem execI_keep {H H' : Heap} {v : V} {ids : List Nat} {i : I} (h : execI call pure fr H i = some (v, .upd H' ids)) : ∀ b, b < H.length → b ∉ ids → H'[b]? = H[b]? := by
  by_cases hv : i.heavy = false
  · have := lite_new hv h
    cases this
  · intro b hb hn
    cases i with
    | box ty x =>
      simp only [execI] at h
      split at h <;> cases h
    | bsl ty z n zero ps =>
      simp only [execI, Option.bind_eq_some_iff] at h
      obtain ⟨cs, _, h⟩ := h
      split at h
      · simp only [Option.map_eq_some_iff, Prod.mk.injEq] at h
        obtain ⟨r, _, _, h⟩ := h
        exact frz_keep h b hb hn
      · cases h
    | st n a x =>
      simp only [execI, Option.map_eq_some_iff, Prod.mk.injEq] at h
      obtain ⟨e, h, _, rfl⟩ := h
      generalize ev fr a = va at h
      cases va <;> simp only [stPl] at h <;> try (cases h; done)
      simp only [Option.bind_eq_some_iff] at h
      obtain ⟨k, hk, h⟩ := h
      split at h
      · simp only [Option.bind_eq_some_iff] at h
        obtain ⟨e, he, h⟩ := h
        split at h
        · split at h
          · simp only [Option.some.injEq, Eff.upd.injEq] at h
            obtain ⟨rfl, rfl⟩ := h
            rw [List.getElem?_set_ne (by simp at hn; exact Ne.symm hn)]
          · simp only [Option.bind_eq_some_iff] at h
            obtain ⟨r, hr, h⟩ := h
            split at h
            · cases h
            · simp only [Option.some.injEq, Eff.upd.injEq] at h
              obtain ⟨rfl, rfl⟩ := h
              simp only [List.mem_cons, not_or] at hn
              rw [List.getElem?_set_ne (Ne.symm hn.1), freezeH_keep hn.2]
        · cases h
      · cases h
    | mks ty z by' zero l c =>
      simp only [execI] at h
      split at h
      · split at h <;> cases h
      · cases h
    | app ty z by' x y =>
      simp only [execI, appV, Option.bind_eq_some_iff] at h
      obtain ⟨ys, _, h⟩ := h
      split at h
      · split at h
        · cases h
        · split at h <;> cases h
      · simp only [Option.bind_eq_some_iff] at h
        obtain ⟨k, hk, h⟩ := h
        split at h
        · split at h
          · cases h
          split at h
          · cases h
          · simp only [Option.some.injEq, Prod.mk.injEq, Eff.upd.injEq] at h
            obtain ⟨_, rfl, rfl⟩ := h
            rw [List.getElem?_set_ne (by simp at hn; exact Ne.symm hn)]
        · cases h
      · cases h
    | call f as =>
      simp only [execI] at h
      split at h
      · unfold callV at h
        split at h
        · simp only [Option.bind_eq_some_iff, Option.map_eq_some_iff, Prod.mk.injEq] at h
          obtain ⟨s, _, r, _, v', _, l', _, _, h⟩ := h
          split at h
          · cases h
          · exact frz_keep h b hb hn
        · simp only [Option.bind_eq_some_iff, Option.map_eq_some_iff, Prod.mk.injEq] at h
          obtain ⟨as', _, Hs, _, r, _, v', _, Hn, _, _, h⟩ := h
          split at h
          · simp only [Eff.upd.injEq] at h
            obtain ⟨rfl, rfl⟩ := h
            rw [List.getElem?_append_left (by rw [putBack_len]; exact hb), putBack_keep hn]
          · cases h
      · cases h
    | ld n x =>
      simp only [execI, Option.map_eq_some_iff, Prod.mk.injEq] at h
      obtain ⟨_, _, _, h⟩ := h
      cases h
    | mkm ag z => simp [execI] at h
    | lku kk ag zero ok m k =>
      simp only [execI] at h
      split at h
      · simp only [Option.bind_eq_some_iff] at h
        obtain ⟨_, _, h⟩ := h
        split at h
        · split at h
          · simp only [Option.map_eq_some_iff, Prod.mk.injEq] at h
            obtain ⟨_, _, _, h⟩ := h
            cases h
          · cases h
        · cases h
      · cases h
    | mup kk ag n m k x =>
      simp only [execI] at h
      split at h
      · simp only [Option.bind_eq_some_iff] at h
        obtain ⟨_, _, h⟩ := h
        split at h
        · simp only [Option.bind_eq_some_iff] at h
          obtain ⟨_, _, h⟩ := h
          split at h
          · simp only [Option.map_eq_some_iff, Prod.mk.injEq, Eff.upd.injEq] at h
            obtain ⟨_, _, _, rfl, rfl⟩ := h
            rw [List.getElem?_set_ne (by simp at hn; exact Ne.symm hn)]
          · cases h
        · cases h
      · cases h
    | _ => simp [I.heavy] at hv
theorem execV_keep {H H' : Heap} {v : V} {ids : List Nat} {o : O} (h : execV call pure o fr H = some (v, .upd H' ids)) : ∀ b, b < H.length → b ∉ ids → H'[b]? = H[b]? := by
  simp only [execV, Option.bind_eq_some_iff] at h
  obtain ⟨b, hb, h⟩ := h
  cases b
  · simp at h
  · simp only [if_true, Option.bind_eq_some_iff] at h
    obtain ⟨r, hr, h⟩ := h
    split at h
    · injection h with h
      subst h
      exact execI_keep hr
    · cases h
theorem ld_block {H H' : Heap} {n : Option Nat} {b L i o : Nat} (h : H'[b]? = H[b]?) : ldPl H' n (.ptr b L i o) = ldPl H n (.ptr b L i o) := by simp only [ldPl, h]
theorem lite_moved {P : Program} {l : List Oper} {o : Oper} {o' : O} (hc : compOper P l o = some o') (hl : o'.i.heavy = false) {v : V} {e : Eff} {H' : Heap} (hf : FrOk ρ F fr a.tmps) (hS : Sim ρ F H' w)
    (h : execV call pure o' fr H = some (v, e)) (hH : o'.i.pure = true ∨ ∀ b ∈ o'.i.rdB fr, b < H.length → b < H'.length → H'[b]? = H[b]?) : execV call pure o' fr H' = some (v, .new []) := by
  simp only [execV, Option.bind_eq_some_iff] at h ⊢
  obtain ⟨b, hb, h⟩ := h
  refine ⟨b, hb, ?_⟩
  cases b
  · simp only [Bool.false_eq_true, if_false, Option.some.injEq, Prod.mk.injEq] at h ⊢
    exact ⟨h.1, trivial⟩
  · simp only [if_true, Option.bind_eq_some_iff] at h ⊢
    obtain ⟨r, hr, h⟩ := h
    have hn : r.2 = .new [] := lite_new hl (v := r.1) (e := r.2) hr
    rw [hn] at h
    simp only [Eff.grows, if_true, Option.some.injEq] at h
    subst h
    refine ⟨(v, .new []), ?_, by simp [Eff.grows]⟩
    simp only at hn
    subst hn
    by_cases hp : o'.i.pure = true
    · exact (execI_pure hp hr).2 H'
    · have hm := hH.resolve_left hp
      simp only [compOper, Option.bind_eq_some_iff, Option.map_eq_some_iff] at hc
      obtain ⟨g, hg, i, hi, rfl⟩ := hc
      simp only at hr hp hl hm ⊢
      cases i <;> simp [I.pure] at hp <;> try (simp [I.heavy] at hl; done)
      rename_i n x
      simp only [execI, Option.map_eq_some_iff, Prod.mk.injEq] at hr ⊢
      obtain ⟨q, hq, rfl, _⟩ := hr
      refine ⟨q, ?_, rfl, trivial⟩
      cases x with
      | c c => simp [I.heavy] at hl
      | t t =>
        have hrel := hf.rel t
        generalize hev : ev fr (.t t) = x at hq hm
        have hev' : fr.getD t .undef = x := hev
        rw [hev'] at hrel
        cases x with
        | ptr b L i o =>
          have hb' : b < H.length := by
            simp only [ldPl, Option.bind_eq_some_iff] at hq
            obtain ⟨k, hk, _⟩ := hq
            exact (List.getElem?_eq_some_iff.1 hk).1
          obtain ⟨L', r, hr⟩ := hrel.refs b (by simp [V.refs])
          rw [ld_block (hm b (by simp [I.rdB, hev]) hb' (hS.img b L' r hr).1)]
          exact hq
        | tptr cs o => exact hq
        | _ => simp [ldPl] at hq

/-- the run in the text's order, and what is known of the operations -/
structure Told (call : CallT) (pure : FuncId → Bool) (l : List Oper) (os : List O) (S : Nat → St) (log : List Lg) : Prop where
  len : os.length = l.length
  step : ∀ (i : Nat) (o : O), os[i]? = some o → ∃ v e, execV call pure o (S i).fr (S i).H = some (v, e) ∧ S (i + 1) = ⟨putV (S i).fr o.dst v, e.heap (S i).H, (S i).d || e.wr⟩ ∧ (∀ b bs, (i, b, bs) ∈ log ↔ (i, b, bs) ∈ lgE i (o.i.rdB (S i).fr) e)
  small : ∀ i, i < os.length → (ancOf l).getD i 0 < 2 ^ i
  one : ∀ (i j : Nat) (o o' : O), os[i]? = some o → os[j]? = some o' → j ≠ i → ∀ t, o'.dst = some t → o.dst ≠ some t ∧ (t ∈ o.reads → cmpA (ancOf l) i j = true)
  ser : ∀ (i j : Nat) (o o' : O), os[i]? = some o → os[j]? = some o' → j ≠ i → o.i.heavy = true → o'.i.heavy = true → cmpA (ancOf l) i j = true
  bar : ∀ i ids, (i, true, ids) ∈ log → ∀ (j : Nat) (o : O), os[j]? = some o → j ≠ i → o.i.pure = false → cmpA (ancOf l) i j = true ∨ (o.i.heavy = false ∧ ∀ bs, (j, false, bs) ∈ log → ∀ b ∈ bs, b ∉ ids)

variable {l : List Oper} {os : List O} {S : Nat → St} {log : List Lg}
theorem putV_len {fr : List V} {d : Option Nat} {v : V} : (putV fr d v).length = fr.length := by cases d <;> simp [putV]
theorem putV_ne {fr : List V} {d : Option Nat} {v : V} {t : Nat} (h : d ≠ some t) : (putV fr d v).getD t .undef = fr.getD t .undef := by
  cases d with
  | none => rfl
  | some d => simp only [putV, List.getD, List.getElem?_set_ne (show d ≠ t from fun e => h (by rw [e]))]
theorem putV_eq {fr fr' : List V} {d : Option Nat} {v : V} {t : Nat} (h : d = some t) (hl : fr.length = fr'.length) : (putV fr d v).getD t .undef = (putV fr' d v).getD t .undef := by
  subst h
  simp only [putV, List.getD, List.getElem?_set]
  by_cases ht : t < fr.length
  · have := hl ▸ ht; simp [ht, this]
  · have := hl ▸ ht; simp [ht, this]
theorem Told.fr_len (h : Told call pure l os S log) : ∀ i, i ≤ os.length → (S i).fr.length = (S 0).fr.length
  | 0, _ => rfl
  | i + 1, hi => by
    obtain ⟨v, e, _, hs, _⟩ := h.step i os[i] (List.getElem?_eq_getElem (by omega))
    rw [hs]
    simp only [putV_len]
    exact h.fr_len i (by omega)
/-- a slot that nobody writes in between -/
theorem Told.fr_keep (h : Told call pure l os S log) {t p : Nat} : ∀ {q : Nat}, p ≤ q → q ≤ os.length → (∀ k o, p ≤ k → k < q → os[k]? = some o → o.dst ≠ some t) → (S q).fr.getD t .undef = (S p).fr.getD t .undef
  | 0, hpq, hq, hn => by rw [show p = 0 by omega]
  | q + 1, hpq, hq, hn => by
    by_cases hp : p = q + 1
    · rw [hp]
    · obtain ⟨v, e, _, hs, _⟩ := h.step q os[q] (List.getElem?_eq_getElem (by omega))
      rw [hs]
      simp only
      rw [putV_ne (hn q os[q] (by omega) (by omega) (List.getElem?_eq_getElem (by omega)))]
      exact h.fr_keep (by omega) (by omega) fun k o h1 h2 => hn k o h1 (by omega)
/-- nobody makes or writes memory in between -/
theorem Told.same (h : Told call pure l os S log) {p : Nat} : ∀ {q : Nat}, p ≤ q → q ≤ os.length → (∀ k o, p ≤ k → k < q → os[k]? = some o → o.i.heavy = false) → (S q).H = (S p).H ∧ (S q).d = (S p).d
  | 0, hpq, hq, hn => by rw [show p = 0 by omega]; exact ⟨rfl, rfl⟩
  | q + 1, hpq, hq, hn => by
    by_cases hp : p = q + 1
    · rw [hp]; exact ⟨rfl, rfl⟩
    · obtain ⟨v, e, hx, hs, _⟩ := h.step q os[q] (List.getElem?_eq_getElem (by omega))
      have hl := hn q os[q] (by omega) (by omega) (List.getElem?_eq_getElem (by omega))
      have he : e = .new [] := by
        simp only [execV, Option.bind_eq_some_iff] at hx
        obtain ⟨b, hb, hx⟩ := hx
        cases b
        · simp only [Bool.false_eq_true, if_false, Option.some.injEq, Prod.mk.injEq] at hx
          exact hx.2.symm
        · simp only [if_true, Option.bind_eq_some_iff] at hx
          obtain ⟨r, hr, hx⟩ := hx
          have hn := lite_new hl (v := r.1) (e := r.2) hr
          split at hx
          · injection hx with hx; rw [hx] at hn; exact hn
          · cases hx
      subst he
      obtain ⟨h1, h2⟩ := h.same (p := p) (q := q) (by omega) (by omega) fun k o h1 h2 => hn k o h1 (by omega)
      rw [hs]
      simp only [Eff.heap, List.append_nil, Eff.wr, Bool.or_false]
      exact ⟨h1, h2⟩
/-- nobody writes a block in between -/
theorem Told.keep (h : Told call pure l os S log) {p b : Nat} : ∀ {q : Nat}, p ≤ q → q ≤ os.length → b < (S p).H.length → (∀ k ids, p ≤ k → k < q → (k, true, ids) ∈ log → b ∉ ids) → (S q).H[b]? = (S p).H[b]? ∧ (S p).H.length ≤ (S q).H.length
  | 0, hpq, hq, hb, hn => by rw [show p = 0 by omega]; exact ⟨rfl, Nat.le_refl _⟩
  | q + 1, hpq, hq, hb, hn => by
    by_cases hp : p = q + 1
    · rw [hp]; exact ⟨rfl, Nat.le_refl _⟩
    · obtain ⟨v, e, hx, hs, hw⟩ := h.step q os[q] (List.getElem?_eq_getElem (by omega))
      obtain ⟨h1, h2⟩ := h.keep (p := p) (b := b) (q := q) (by omega) (by omega) hb fun k ids h1 h2 => hn k ids h1 (by omega)
      have hlen := execV_len hx
      rw [hs]
      simp only
      refine ⟨?_, Nat.le_trans h2 hlen⟩
      rw [← h1]
      cases e with
      | new l' => simp only [Eff.heap]; rw [List.getElem?_append_left (by omega)]
      | upd H' ids =>
        simp only [Eff.heap]
        exact execV_keep hx b (by omega) (hn q ids (by omega) (by omega) ((hw true ids).2 (by simp [lgE])))
/-- what writes memory is heavy -/
theorem Told.heavy (h : Told call pure l os S log) {i : Nat} {o : O} (ho : os[i]? = some o) {ids : List Nat} (hw : (i, true, ids) ∈ log) : o.i.heavy = true := by
  by_cases hl : o.i.heavy = true
  · exact hl
  · obtain ⟨v, e, hx, hs, hw'⟩ := h.step i o ho
    have he : e = .new [] := by
      simp only [execV, Option.bind_eq_some_iff] at hx
      obtain ⟨b, hb, hx⟩ := hx
      cases b
      · simp only [Bool.false_eq_true, if_false, Option.some.injEq, Prod.mk.injEq] at hx
        exact hx.2.symm
      · simp only [if_true, Option.bind_eq_some_iff] at hx
        obtain ⟨r, hr, hx⟩ := hx
        have hn := lite_new (by simpa using hl) (v := r.1) (e := r.2) hr
        split at hx
        · injection hx with hx; rw [hx] at hn; exact hn
        · cases hx
    have := (hw' true ids).1 hw
    rw [he] at this
    simp only [lgE] at this
    split at this <;> simp at this
/-- a light operation's look at memory is in the log -/
theorem Told.look (h : Told call pure l os S log) {i : Nat} {o : O} (ho : os[i]? = some o) (hl : o.i.heavy = false) {b : Nat} (hb : b ∈ o.i.rdB (S i).fr) : (i, false, o.i.rdB (S i).fr) ∈ log := by
  obtain ⟨v, e, hx, hs, hw'⟩ := h.step i o ho
  refine (hw' false _).2 ?_
  have he : e = .new [] := by
    simp only [execV, Option.bind_eq_some_iff] at hx
    obtain ⟨b, hb, hx⟩ := hx
    cases b
    · simp only [Bool.false_eq_true, if_false, Option.some.injEq, Prod.mk.injEq] at hx
      exact hx.2.symm
    · simp only [if_true, Option.bind_eq_some_iff] at hx
      obtain ⟨r, hr, hx⟩ := hx
      have hn := lite_new hl (v := r.1) (e := r.2) hr
      split at hx
      · injection hx with hx; rw [hx] at hn; exact hn
      · cases hx
  rw [he]
  simp only [lgE]
  split
  · rename_i hem
    rw [List.isEmpty_iff.1 hem] at hb
    cases hb
  · simp
theorem rdB_congr {fr fr' : List V} {i : I} (h : ∀ t ∈ i.reads, fr.getD t .undef = fr'.getD t .undef) : i.rdB fr = i.rdB fr' := by
  cases i <;> simp only [I.rdB]
  rename_i n x
  rw [ev_congr (x := x) h]

structure DInv (Hs : Heap) (ρ0 : Rho) (F0 : Fz) (w0 : World) (l : List Oper) (os : List O) (S : Nat → St) (listed : Array Bool) (a : Act) (w : World) : Prop where
  size : listed.size = os.length
  cl : ∀ i j, listed.getD i false = true → ((ancOf l).getD i 0).testBit j = true → listed.getD j false = true
  ex : ∃ m fe, m ≤ os.length ∧ (∀ i o, os[i]? = some o → o.i.heavy = true → (listed.getD i false = true ↔ i < m)) ∧ Inv Hs ρ0 F0 w0 ⟨fe, (S m).H, (S m).d⟩ a w ∧ fe.length = (S 0).fr.length ∧
    ∀ t, (∃ i o, os[i]? = some o ∧ o.dst = some t ∧ listed.getD i false = true ∧ fe.getD t .undef = (S (i + 1)).fr.getD t .undef) ∨ ((∀ i o, os[i]? = some o → o.dst = some t → listed.getD i false = false) ∧ fe.getD t .undef = (S 0).fr.getD t .undef)

theorem getD_set {listed : Array Bool} {i j : Nat} : (listed.setIfInBounds i true).getD j false = true ↔ listed.getD j false = true ∨ (j = i ∧ i < listed.size) := by
  simp only [Array.getD_eq_getD_getElem?, Array.getElem?_setIfInBounds]
  by_cases hij : i = j
  · subst hij
    by_cases hi : i < listed.size
    · simp [hi]
    · simp [hi]
  · rw [if_neg hij]
    constructor
    · exact .inl
    · rintro (h | ⟨h, _⟩)
      · exact h
      · exact absurd h.symm hij

/-- one operation that is ready -/
theorem DInv.next (hcall : CallOk P call) (hT : Told call pure l os S log) {ops : Array Oper} (hl : ops.toList = l) (hco : ∀ (i : Nat) (o : Oper), l[i]? = some o → ∃ o', os[i]? = some o' ∧ compOper P l o = some o') {listed : Array Bool} (h : DInv Hs ρ0 F0 w0 l os S listed a w) {i : Nat} (hr : i ∈ Region.ready .any ops listed) {K : Act → World → Prop}
    (hK : ∀ a' w', DInv Hs ρ0 F0 w0 l os S (listed.setIfInBounds i true) a' w' → K a' w') : wpOp P ops Q i K a w := by
  obtain ⟨hun, o, ho, hall⟩ := mem_ready.1 hr
  obtain ⟨m, fe, hm, hhv, hI, hfl, hfe⟩ := h.ex
  have hol : l[i]? = some o := by rw [← hl]; simpa using ho
  obtain ⟨o', ho', hc⟩ := hco i o hol
  have hin : i < os.length := (List.getElem?_eq_some_iff.1 ho').1
  have hsz := h.size
  have hun' : listed.getD i false = false := by
    simp only [Array.getD_eq_getD_getElem?, Array.getElem?_eq_getElem (show i < listed.size by omega), Option.getD_some] at hun ⊢
    exact hun
  -- who comes before i has come up
  have hanc : ∀ j, ((ancOf l).getD i 0).testBit j = true → listed.getD j false = true := by
    intro j hj
    obtain ⟨e, he, hb, hj⟩ := anc_inv hol hj
    have := hall e he hb
    rcases hj with rfl | hj
    · exact this
    · exact h.cl _ _ this hj
  have hlt : ∀ {i j}, i < os.length → ((ancOf l).getD i 0).testBit j = true → j < i := fun hi hj => bit_lt (hT.small _ hi) hj
  have hcl' : ∀ i' j, (listed.setIfInBounds i true).getD i' false = true → ((ancOf l).getD i' 0).testBit j = true → (listed.setIfInBounds i true).getD j false = true := by
    intro i' j hi' hj
    rw [getD_set] at hi' ⊢
    rcases hi' with hi' | ⟨rfl, _⟩
    · exact .inl (h.cl _ _ hi' hj)
    · exact .inl (hanc j hj)
  -- its slots hold what they held in the text's order
  have hag : ∀ t ∈ o'.reads, (S i).fr.getD t .undef = fe.getD t .undef := by
    intro t ht
    rcases hfe t with ⟨j, oj, hj, hd, hlj, hv⟩ | ⟨hno, hv⟩
    · have hji : j ≠ i := by rintro rfl; rw [hun'] at hlj; cases hlj
      have hcmp := (hT.one i j o' oj ho' hj hji t hd).2 ht
      simp only [cmpA, Bool.or_eq_true] at hcmp
      have hjn : j < os.length := (List.getElem?_eq_some_iff.1 hj).1
      have hjlt : j < i := by
        rcases hcmp with hc1 | hc1
        · exact hlt hin hc1
        · exact absurd (h.cl j i hlj hc1) (by rw [hun']; simp)
      rw [hv]
      refine hT.fr_keep (by omega) (by omega) fun k ok h1 h2 hk hd' => ?_
      exact (hT.one k j ok oj hk hj (by omega) t hd).1 hd'
    · rw [hv]
      refine hT.fr_keep (by omega) (by omega) fun k ok h1 h2 hk hd' => ?_
      have hcmp := (hT.one i k o' ok ho' hk (by omega) t hd').2 ht
      simp only [cmpA, Bool.or_eq_true] at hcmp
      rcases hcmp with hc1 | hc1
      · have := hanc k hc1
        rw [hno k ok hk hd'] at this
        cases this
      · have := hlt (by omega) hc1
        omega
  obtain ⟨v, e, hx, hS1, hwr⟩ := hT.step i o' ho'
  rw [execV_congr hag] at hx
  have hdl : o'.dst = o.dst := by
    simp only [compOper, Option.bind_eq_some_iff, Option.map_eq_some_iff] at hc
    obtain ⟨g, hg, i, hi, rfl⟩ := hc
    rfl
  -- the frame behind it
  have hfe' : ∀ t, (∃ i' o, os[i']? = some o ∧ o.dst = some t ∧ (listed.setIfInBounds i true).getD i' false = true ∧ (putV fe o'.dst v).getD t .undef = (S (i' + 1)).fr.getD t .undef) ∨ ((∀ i' o, os[i']? = some o → o.dst = some t → (listed.setIfInBounds i true).getD i' false = false) ∧ (putV fe o'.dst v).getD t .undef = (S 0).fr.getD t .undef) := by
    intro t
    by_cases hd : o'.dst = some t
    · refine .inl ⟨i, o', ho', hd, getD_set.2 (.inr ⟨rfl, by omega⟩), ?_⟩
      rw [hS1]
      exact putV_eq hd (by rw [hfl]; exact (hT.fr_len i (by omega)).symm)
    · rw [putV_ne hd]
      refine (hfe t).imp (fun ⟨j, oj, h1, h2, h3, h4⟩ => ⟨j, oj, h1, h2, getD_set.2 (.inl h3), h4⟩) fun ⟨h1, h2⟩ => ⟨fun j oj hj hdj => ?_, h2⟩
      have : ¬ (listed.setIfInBounds i true).getD j false = true := by
        rw [getD_set]
        rintro (h3 | ⟨rfl, _⟩)
        · rw [h1 j oj hj hdj] at h3; cases h3
        · rw [ho'] at hj; injection hj with hj; rw [← hj] at hdj; exact hd hdj
      simpa using this
  have hfin : ∀ (s' : St) (wr' : Bool) (m' : Nat), execO call pure o' ⟨fe, (S m).H, (S m).d⟩ = some (s', wr') → s' = ⟨putV fe o'.dst v, (S m').H, (S m').d⟩ → m' ≤ os.length → (∀ j oj, os[j]? = some oj → oj.i.heavy = true → ((listed.setIfInBounds i true).getD j false = true ↔ j < m')) → wpOp P ops Q i K a w := by
    intro s' wr' m' hxo hs' hm' hh'
    have := hI.step hcall hl hc hxo (K := K) (Q := Q) fun a' w' hi => hK _ _ ⟨by simpa using hsz, hcl', m', putV fe o'.dst v, hm', hh', hs' ▸ hi, by rw [putV_len]; exact hfl, hfe'⟩
    unfold wpOp
    rw [ho]
    simp only
    split
    · rename_i hw; rw [if_pos hw] at this; exact .inl this
    · rename_i hw; rw [if_neg hw] at this; exact this
  by_cases hv : o'.i.heavy = true
  · have him : m ≤ i := by
      have := mt (hhv i o' ho' hv).2 (by rw [hun']; simp)
      omega
    have hno : ∀ k ok, m ≤ k → k < i → os[k]? = some ok → ok.i.heavy = false := by
      intro k ok h1 h2 hk
      by_cases hkv : ok.i.heavy = true
      · have hcmp := hT.ser i k o' ok ho' hk (by omega) hv hkv
        simp only [cmpA, Bool.or_eq_true] at hcmp
        rcases hcmp with hc1 | hc1
        · have := (hhv k ok hk hkv).1 (hanc k hc1); omega
        · have := hlt (by omega) hc1; omega
      · simpa using hkv
    obtain ⟨e1, e2⟩ := hT.same him (by omega) hno
    refine hfin _ e.wr (i + 1) (by rw [execO, ← e1, hx]; rfl) ?_ (by omega) fun j oj hj hjv => ?_
    · rw [hS1]; simp only [e2]
    · rw [getD_set, hhv j oj hj hjv]
      constructor
      · rintro (h1 | ⟨rfl, _⟩) <;> omega
      · intro h1
        by_cases hji : j = i
        · exact .inr ⟨hji, by omega⟩
        · refine .inl ?_
          by_cases hjm : j < m
          · exact hjm
          · have := hno j oj (by omega) (by omega) hj
            rw [hjv] at this
            cases this
  · have hv' : o'.i.heavy = false := by simpa using hv
    obtain ⟨ρ, F, hE, hSm, hF, hD⟩ := hI.ex
    have hrd : o'.i.rdB (S i).fr = o'.i.rdB fe := rdB_congr fun t ht => hag t (by simp [O.reads, ht])
    have hmv := lite_moved hc hv' hF hSm hx (by
      by_cases hp : o'.i.pure = true
      · exact .inl hp
      · have hp' : o'.i.pure = false := by simpa using hp
        refine .inr fun b hb hb1 hb2 => ?_
        rw [← hrd] at hb
        have hlook := hT.look ho' hv' hb
        rcases Nat.le_total i m with him | him
        · exact (hT.keep him hm hb1 fun k ids h1 h2 hkw => by
            have hk := List.getElem?_eq_getElem (show k < os.length by omega)
            have hkv := hT.heavy hk hkw
            have hki : i ≠ k := by rintro rfl; rw [ho'] at hk; injection hk with hk; rw [← hk, hv'] at hkv; cases hkv
            rcases hT.bar k ids hkw i o' ho' hki hp' with hcmp | hoth
            · simp only [cmpA, Bool.or_eq_true] at hcmp
              exfalso
              rcases hcmp with hc1 | hc1
              · have := h.cl k i ((hhv k _ hk hkv).2 h2) hc1
                rw [hun'] at this
                cases this
              · have := hlt hin hc1; omega
            · exact hoth.2 _ hlook b hb).1
        · exact ((hT.keep him (by omega) hb2 fun k ids h1 h2 hkw => by
            have hk := List.getElem?_eq_getElem (show k < os.length by omega)
            have hkv := hT.heavy hk hkw
            rcases hT.bar k ids hkw i o' ho' (by omega) hp' with hcmp | hoth
            · simp only [cmpA, Bool.or_eq_true] at hcmp
              exfalso
              rcases hcmp with hc1 | hc1
              · have := hlt (by omega) hc1; omega
              · have := (hhv k _ hk hkv).1 (hanc k hc1); omega
            · exact hoth.2 _ hlook b hb).1).symm)
    refine hfin _ false m (by rw [execO, hmv]; rfl) (by simp [Eff.heap, Eff.wr]) hm fun j oj hj hjv => ?_
    rw [getD_set, hhv j oj hj hjv]
    constructor
    · rintro (h1 | ⟨rfl, _⟩)
      · exact h1
      · rw [ho'] at hj; injection hj with hj; rw [hj, hjv] at hv'; cases hv'
    · exact .inl

theorem count_set {l : List Bool} {i : Nat} (h : l[i]? = some false) : (l.set i true).count false + 1 = l.count false := by
  induction l generalizing i with
  | nil => simp at h
  | cons b bs ih =>
    cases i with
    | zero => simp at h; subst h; simp
    | succ i =>
      simp at h
      have := ih h
      cases b <;> simp <;> omega
theorem any_sound (hcall : CallOk P call) (hT : Told call pure l os S log) {ops : Array Oper} (hl : ops.toList = l) (hco : ∀ (i : Nat) (o : Oper), l[i]? = some o → ∃ o', os[i]? = some o' ∧ compOper P l o = some o')
    (hQ : ∀ a' w', Inv Hs ρ0 F0 w0 (S os.length) a' w' → Q .normal a' w') : ∀ (fuel : Nat) (listed : Array Bool) (a : Act) (w : World), listed.toList.count false = fuel → DInv Hs ρ0 F0 w0 l os S listed a w → wpAny P .any ops Q fuel listed a w := by
  have hsz : ∀ {listed a w}, DInv Hs ρ0 F0 w0 l os S listed a w → listed.size = ops.size := fun h => by rw [h.size, hT.len, ← hl]; simp
  have hend : ∀ (listed : Array Bool) (a : Act) (w : World), DInv Hs ρ0 F0 w0 l os S listed a w → Region.ready .any ops listed = [] → Q .normal a w := by
    intro listed a w h hr
    have hall : ∀ n i, i < n → i < os.length → listed.getD i false = true := by
      intro n
      induction n with
      | zero => intro i hi; omega
      | succ n ih =>
        intro i hi hio
        by_cases hli : listed.getD i false = true
        · exact hli
        · exfalso
          have hi' : i < ops.size := by rw [← hsz h, h.size]; exact hio
          have : i ∈ Region.ready .any ops listed := by
            refine mem_ready.2 ⟨?_, ops[i], by simp [hi'], fun e he hb => ?_⟩
            · have : i < listed.size := by rw [h.size]; exact hio
              simp only [Array.getD_eq_getD_getElem?, Array.getElem?_eq_getElem this, Option.getD_some] at hli ⊢
              simpa using hli
            · have hol : l[i]? = some ops[i] := by rw [← hl]; simp [hi']
              have := bit_lt (hT.small i hio) (anc_dir hol he hb)
              exact ih e.on (by omega) (by omega)
          rw [hr] at this
          cases this
    obtain ⟨m, fe, hm, hhv, hI, hfl, hfe⟩ := h.ex
    obtain ⟨e1, e2⟩ := hT.same hm (Nat.le_refl _) fun k ok h1 h2 hk => by
      by_cases hkv : ok.i.heavy = true
      · have := (hhv k ok hk hkv).1 (hall (k + 1) k (by omega) h2); omega
      · simpa using hkv
    refine hQ a w ?_
    have : S os.length = ⟨fe, (S m).H, (S m).d⟩ := by
      have hfr : (S os.length).fr = fe := by
        refine List.ext_getElem (by rw [hfl]; exact hT.fr_len _ (Nat.le_refl _)) fun t h1 h2 => ?_
        have key : (S os.length).fr.getD t .undef = fe.getD t .undef := by
          rcases hfe t with ⟨i, o, ho, hd, hli, hv⟩ | ⟨hno, hv⟩
          · rw [hv]
            have := (List.getElem?_eq_some_iff.1 ho).1
            refine hT.fr_keep (by omega) (by omega) fun k ok h1 h2 hk hd' => ?_
            exact (hT.one k i ok o hk ho (by omega) t hd).1 hd'
          · rw [hv]
            refine hT.fr_keep (by omega) (by omega) fun k ok h1 h2 hk hd' => ?_
            have := hno k ok hk hd'
            rw [hall (k + 1) k (by omega) h2] at this
            cases this
        simpa [List.getD, h1, h2] using key
      rw [← hfr, ← e1, ← e2]
    rw [this]
    exact hI
  intro fuel
  induction fuel with
  | zero =>
    intro listed a w hc h
    have hr : Region.ready .any ops listed = [] := by
      cases hq : Region.ready .any ops listed with
      | nil => rfl
      | cons i is =>
        have hi : i ∈ Region.ready .any ops listed := by rw [hq]; simp
        obtain ⟨hun, o, ho, _⟩ := mem_ready.1 hi
        have hio : i < listed.size := by rw [hsz h]; exact (Array.getElem?_eq_some_iff.1 ho).1
        have : false ∈ listed.toList := by
          simp only [Array.getD_eq_getD_getElem?, Array.getElem?_eq_getElem hio, Option.getD_some] at hun
          rw [← hun]
          simp
        have := List.count_pos_iff.2 this
        omega
    exact ⟨hr, hend listed a w h hr⟩
  | succ fuel ih =>
    intro listed a w hc h
    refine ⟨hend listed a w h, fun i hi => h.next hcall hT hl hco hi fun a' w' h' => ih _ _ _ ?_ h'⟩
    obtain ⟨hun, o, ho, _⟩ := mem_ready.1 hi
    have hio : i < listed.size := by rw [hsz h]; exact (Array.getElem?_eq_some_iff.1 ho).1
    have hf : listed.toList[i]? = some false := by
      simp only [Array.getD_eq_getD_getElem?, Array.getElem?_eq_getElem hio, Option.getD_some] at hun
      simp [hio, hun]
    have := count_set hf
    rw [Array.toList_setIfInBounds]
    omega

theorem drw_sound (hcall : CallOk P call) (hm : P.follows .mixedOrders = true) (h : Inv Hs ρ0 F0 w0 s a w) {id : Nat} {ops : Array Oper} (hc : compOps P ops.toList ops.toList = some os) (hd : drawOk os (ancOf ops.toList) = true) (hx : execOpsW call pure 0 os s = some (s', log)) (hb : barrier os (ancOf ops.toList) log = true)
    (hQ : ∀ a' w', Inv Hs ρ0 F0 w0 s' a' w' → Q .normal a' w') : (Code.region id ops true).wp P Q a w := by
  obtain ⟨S, hS0, hSn, hwr, hst⟩ := execOpsW_seq hx
  obtain ⟨hlen, hco⟩ := compOps_get hc
  simp only [drawOk, Bool.and_eq_true] at hd
  have hT : Told call pure ops.toList os S log := by
    refine ⟨hlen, fun i o ho => ?_, fun i hi => ?_, fun i j o o' ho ho' hji t ht => ?_, fun i j o o' ho ho' hji h1 h2 => ?_, fun i ids hi j o ho hji hp => ?_⟩
    · simpa using hst i o ho
    · simpa using (drawGo_spec hd.1 i os[i] (List.getElem?_eq_getElem hi)).1
    · have := (drawGo_spec hd.1 i o ho).2
      have := drawOne_spec (by simpa using this) j o' ho' (by omega) t ht
      simpa using this
    · have hi := (List.getElem?_eq_some_iff.1 ho).1
      have hj := (List.getElem?_eq_some_iff.1 ho').1
      have := hd.2
      simp only [serialOk, List.all_eq_true, List.mem_range] at this
      have := this i hi j hj
      simpa [List.getD, ho, ho', h1, h2, hji] using this
    · have hj := (List.getElem?_eq_some_iff.1 ho).1
      have hbw : ∀ l2 : List Lg, barrierG os (ancOf ops.toList) log l2 = true → (i, true, ids) ∈ l2 → barrierW os (ancOf ops.toList) log i ids = true := by
        intro l2
        induction l2 with
        | nil => intro _ h; cases h
        | cons x l2 ih =>
          obtain ⟨k, w, bs⟩ := x
          intro h1 h2
          cases w with
          | false =>
            simp only [barrierG] at h1
            rcases List.mem_cons.1 h2 with h2 | h2
            · simp at h2
            · exact ih h1 h2
          | true =>
            simp only [barrierG, Bool.and_eq_true] at h1
            rcases List.mem_cons.1 h2 with h2 | h2
            · simp only [Prod.mk.injEq, true_and] at h2
              rw [h2.1, h2.2]; exact h1.1
            · exact ih h1.2 h2
      have := hbw log hb hi
      simp only [barrierW, List.all_eq_true, List.mem_range] at this
      have := this j hj
      simp only [List.getD, ho, Option.getD_some, hp, Bool.or_eq_true, beq_iff_eq, hji, false_or, Bool.false_eq_true, Bool.and_eq_true, Bool.not_eq_true', List.all_eq_true] at this
      refine this.imp (fun h => h) fun h => ⟨h.1, fun bs hbs b hb' => ?_⟩
      have := h.2 _ hbs
      simp only [bne_self_eq_false, Bool.false_eq_true, false_or, List.all_eq_true] at this
      have := this b hb'
      simpa using this
  refine wp_region_any hm (any_sound hcall hT rfl hco (fun a' w' hi => hQ a' w' (hSn ▸ hi)) _ _ _ _ ?_ ?_)
  · simp
  · have hg : ∀ i, (Array.replicate ops.size false).getD i false = false := by
      intro i
      simp only [Array.getD_eq_getD_getElem?, Array.getElem?_replicate]
      split <;> rfl
    refine ⟨by simp [hlen], fun i j hi hj => ?_, 0, s.fr, by omega, fun i o ho hv => ?_, ?_, by rw [hS0], fun t => .inr ⟨fun i o _ _ => hg i, by rw [hS0]⟩⟩
    · rw [hg] at hi; cases hi
    · rw [hg]; simp
    · rw [hS0]
      exact h.drawn _
end
end Go.AM
