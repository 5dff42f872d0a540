/- Regions: in line, and in any order. -/
import Derived.Test.YtdgineiemjplhaaAmRegC
set_option linter.unusedVariables false
set_option linter.unusedSimpArgs false
namespace Go.AM
open Go Go.RowKit

section
variable {P : Program} {ρ ρ0 : Rho} {F F0 : Fz} {H Hs : Heap} {w w0 : World} {fr : List V} {a : Act} {call : CallT} {pure : FuncId → Bool} {s s' : St} {Q : Exit → Act → World → Prop}

theorem ops_sound (hcall : CallOk P call) {ops : Array Oper} {l : List Oper} (hl : ops.toList = l) (hQ : ∀ a' w', Inv Hs ρ0 F0 w0 s' a' w' → Q .normal a' w') : ∀ {ls : List Oper} {os : List O} {s : St} {a : Act} {w : World}, compOps P l ls = some os → execOps call pure os s = some s' → Inv Hs ρ0 F0 w0 s a w → wpList P ops Q ls a w
  | [], os, s, a, w, hc, hx, h => by
    simp [compOps] at hc
    subst hc
    simp [execOps] at hx
    subst hx
    exact hQ _ _ h
  | o :: ls, os, s, a, w, hc, hx, h => by
    simp only [compOps, Option.bind_eq_some_iff, Option.map_eq_some_iff] at hc
    obtain ⟨o', ho, os', hos, rfl⟩ := hc
    simp only [execOps, Option.bind_eq_some_iff] at hx
    obtain ⟨⟨s1, wr⟩, h1, h2⟩ := hx
    have := h.step hcall hl ho h1 (K := wpList P ops Q ls) (Q := Q) (fun a' w' hi => ops_sound hcall hl hQ hos h2 hi)
    unfold wpList
    split
    · rename_i hw; rw [if_pos hw] at this; exact .inl this
    · rename_i hw; rw [if_neg hw] at this; exact this
theorem reg_sound (hcall : CallOk P call) (h : Inv Hs ρ0 F0 w0 s a w) {id : Nat} {ops : Array Oper} {os : List O} (hc : compOps P ops.toList ops.toList = some os) (hx : execOps call pure os s = some s') (hQ : ∀ a' w', Inv Hs ρ0 F0 w0 s' a' w' → Q .normal a' w') : (Code.region id ops false).wp P Q a w :=
  wp_region_list (ops_sound hcall rfl hQ hc hx h)

/-! ### In any order -/
theorem Inv.drawn (h : Inv Hs ρ0 F0 w0 s a w) (n : Nat) : Inv Hs ρ0 F0 w0 s a { w with drawn := n } := by
  obtain ⟨ρ, F, hE, hS, hF, hD⟩ := h.ex
  exact ⟨h.ok, h.len, h.same, h.df, ρ, F, ⟨hE.os, hE.tape, hE.output, hE.size, hE.keep, hE.rho, hE.new, hE.fle, hE.fnew⟩, ⟨hS.img, hS.blk, hS.fz, hS.len, hS.inj, hS.frz, hS.mp⟩, hF, hD⟩

theorem ld_append {H l : Heap} {n : Option Nat} {x v : V} (h : ldPl H n x = some v) : ldPl (H ++ l) n x = some v := by
  cases x <;> simp only [ldPl] at h ⊢ <;> first | exact h | (cases h; done) | skip
  simp only [Option.bind_eq_some_iff] at h ⊢
  obtain ⟨k, hk, h⟩ := h
  exact ⟨k, by rw [List.getElem?_append_left (List.getElem?_eq_some_iff.1 hk).1]; exact hk, h⟩
theorem ld_front {H l : Heap} {n : Option Nat} {x v : V} (h : ldPl (H ++ l) n x = some v) (hb : ∀ b ∈ x.refs, b < H.length) : ldPl H n x = some v := by
  cases x <;> simp only [ldPl] at h ⊢ <;> first | exact h | (cases h; done) | skip
  rename_i b L i o
  rw [List.getElem?_append_left (hb b (by simp [V.refs]))] at h
  exact h
/-- what neither makes nor writes memory nor calls: a look at memory, or not even that -/
theorem lite_new {i : I} (hl : i.heavy = false) {v : V} {e : Eff} (h : execI call pure fr H i = some (v, e)) : e = .new [] := by
  by_cases hp : i.pure = true
  · exact (execI_pure hp h).1
  · cases i <;> simp [I.pure] at hp <;> try (simp [I.heavy] at hl; done)
    simp only [execI, Option.map_eq_some_iff, Prod.mk.injEq] at h
    obtain ⟨_, _, _, rfl⟩ := h
    rfl
theorem freezeH_keep : ∀ {fs : List (Nat × Nat)} {H : Heap} {b : Nat}, b ∉ fs.map (·.1) → (freezeH H fs)[b]? = H[b]?
  | [], H, b, h => rfl
  | (c, n) :: fs, H, b, h => by
    simp only [List.map_cons, List.mem_cons, not_or] at h
    simp only [freezeH]
    rw [freezeH_keep h.2, List.getElem?_modify]
    have : c ≠ b := fun e => h.1 e.symm
    simp [this]
theorem frz_keep {H H' : Heap} {ids : List Nat} {fs : List (Nat × Nat)} {l : List Blk} (h : Eff.frz H fs l = .upd H' ids) : ∀ b, b < H.length → b ∉ ids → H'[b]? = H[b]? := by
  intro b hb hn
  cases fs with
  | nil => cases h
  | cons f fs =>
    simp only [Eff.frz, Eff.upd.injEq] at h
    obtain ⟨rfl, rfl⟩ := h
    rw [List.getElem?_append_left (by rw [freezeH_len]; exact hb), freezeH_keep hn]
theorem putBack_keep {Hn : Heap} : ∀ {ids : List Nat} {i : Nat} {H : Heap} {b : Nat}, b ∉ ids → (putBack Hn i ids H)[b]? = H[b]?
  | [], i, H, b, h => rfl
  | c :: ids, i, H, b, h => by
    simp only [List.mem_cons, not_or] at h
    rw [putBack, putBack_keep h.2, List.getElem?_set_ne (Ne.symm h.1)]
/-- what an operation does not say that it wrote stays as it was -/
theorem execI_keep {H H' : Heap} {v : V} {ids : List Nat} {i : I} (h : execI call pure fr H i = some (v, .upd H' ids)) : ∀ b, b < H.length → b ∉ ids → H'[b]? = H[b]? := by
  by_cases hv : i.heavy = false
  · have := lite_new hv h
    cases this
  · intro b hb hn
    cases i with
    | box ty x =>
      simp only [execI] at h
      split at h <;> cases h
    | bsl ty z n zero ps =>
      simp only [execI, Option.bind_eq_some_iff] at h
      obtain ⟨cs, _, h⟩ := h
      split at h
      · simp only [Option.map_eq_some_iff, Prod.mk.injEq] at h
        obtain ⟨r, _, _, h⟩ := h
        exact frz_keep h b hb hn
      · cases h
    | st n a x =>
      simp only [execI, Option.map_eq_some_iff, Prod.mk.injEq] at h
      obtain ⟨e, h, _, rfl⟩ := h
      generalize ev fr a = va at h
      cases va <;> simp only [stPl] at h <;> try (cases h; done)
      simp only [Option.bind_eq_some_iff] at h
      obtain ⟨k, hk, h⟩ := h
      split at h
      · simp only [Option.bind_eq_some_iff] at h
        obtain ⟨e, he, h⟩ := h
        split at h
        · split at h
          · simp only [Option.some.injEq, Eff.upd.injEq] at h
            obtain ⟨rfl, rfl⟩ := h
            rw [List.getElem?_set_ne (by simp at hn; exact Ne.symm hn)]
          · simp only [Option.bind_eq_some_iff] at h
            obtain ⟨r, hr, h⟩ := h
            split at h
            · cases h
            · simp only [Option.some.injEq, Eff.upd.injEq] at h
              obtain ⟨rfl, rfl⟩ := h
              simp only [List.mem_cons, not_or] at hn
              rw [List.getElem?_set_ne (Ne.symm hn.1), freezeH_keep hn.2]
        · cases h
      · cases h
    | mks ty z by' zero l c =>
      simp only [execI] at h
      split at h
      · split at h <;> cases h
      · cases h
    | app ty z by' x y =>
      simp only [execI, appV, Option.bind_eq_some_iff] at h
      obtain ⟨ys, _, h⟩ := h
      split at h
      · split at h
        · cases h
        · split at h <;> cases h
      · simp only [Option.bind_eq_some_iff] at h
        obtain ⟨k, hk, h⟩ := h
        split at h
        · split at h
          · cases h
          split at h
          · cases h
          · simp only [Option.some.injEq, Prod.mk.injEq, Eff.upd.injEq] at h
            obtain ⟨_, rfl, rfl⟩ := h
            rw [List.getElem?_set_ne (by simp at hn; exact Ne.symm hn)]
        · cases h
      · cases h
    | call f as =>
      simp only [execI] at h
      split at h
      · unfold callV at h
        split at h
        · simp only [Option.bind_eq_some_iff, Option.map_eq_some_iff, Prod.mk.injEq] at h
          obtain ⟨s, _, r, _, v', _, l', _, _, h⟩ := h
          split at h
          · cases h
          · exact frz_keep h b hb hn
        · simp only [Option.bind_eq_some_iff, Option.map_eq_some_iff, Prod.mk.injEq] at h
          obtain ⟨as', _, Hs, _, r, _, v', _, Hn, _, _, h⟩ := h
          split at h
          · simp only [Eff.upd.injEq] at h
            obtain ⟨rfl, rfl⟩ := h
            rw [List.getElem?_append_left (by rw [putBack_len]; exact hb), putBack_keep hn]
          · cases h
      · cases h
    | ld n x =>
      simp only [execI, Option.map_eq_some_iff, Prod.mk.injEq] at h
      obtain ⟨_, _, _, h⟩ := h
      cases h
    | mkm ag z => simp [execI] at h
    | lku kk ag zero ok m k =>
      simp only [execI] at h
      split at h
      · simp only [Option.bind_eq_some_iff] at h
        obtain ⟨_, _, h⟩ := h
        split at h
        · split at h
          · simp only [Option.map_eq_some_iff, Prod.mk.injEq] at h
            obtain ⟨_, _, _, h⟩ := h
            cases h
          · cases h
        · cases h
      · cases h
    | mup kk ag n m k x =>
      simp only [execI] at h
      split at h
      · simp only [Option.bind_eq_some_iff] at h
        obtain ⟨_, _, h⟩ := h
        split at h
        · simp only [Option.bind_eq_some_iff] at h
          obtain ⟨_, _, h⟩ := h
          split at h
          · simp only [Option.map_eq_some_iff, Prod.mk.injEq, Eff.upd.injEq] at h
            obtain ⟨_, _, _, rfl, rfl⟩ := h
            rw [List.getElem?_set_ne (by simp at hn; exact Ne.symm hn)]
          · cases h
        · cases h
      · cases h
    | _ => simp [I.heavy] at hv
theorem execV_keep {H H' : Heap} {v : V} {ids : List Nat} {o : O} (h : execV call pure o fr H = some (v, .upd H' ids)) : ∀ b, b < H.length → b ∉ ids → H'[b]? = H[b]? := by
  simp only [execV, Option.bind_eq_some_iff] at h
  obtain ⟨b, hb, h⟩ := h
  cases b
  · simp at h
  · simp only [if_true, Option.bind_eq_some_iff] at h
    obtain ⟨r, hr, h⟩ := h
    split at h
    · injection h with h
      subst h
      exact execI_keep hr
    · cases h
theorem ld_block {H H' : Heap} {n : Option Nat} {b L i o : Nat} (h : H'[b]? = H[b]?) : ldPl H' n (.ptr b L i o) = ldPl H n (.ptr b L i o) := by simp only [ldPl, h]
theorem lite_moved {P : Program} {l : List Oper} {o : Oper} {o' : O} (hc : compOper P l o = some o') (hl : o'.i.heavy = false) {v : V} {e : Eff} {H' : Heap} (hf : FrOk ρ F fr a.tmps) (hS : Sim ρ F H' w)
    (h : execV call pure o' fr H = some (v, e)) (hH : o'.i.pure = true ∨ ∀ b ∈ o'.i.rdB fr, b < H.length → b < H'.length → H'[b]? = H[b]?) : execV call pure o' fr H' = some (v, .new []) := by
  simp only [execV, Option.bind_eq_some_iff] at h ⊢
  obtain ⟨b, hb, h⟩ := h
  refine ⟨b, hb, ?_⟩
  cases b
  · simp only [Bool.false_eq_true, if_false, Option.some.injEq, Prod.mk.injEq] at h ⊢
    exact ⟨h.1, trivial⟩
  · simp only [if_true, Option.bind_eq_some_iff] at h ⊢
    obtain ⟨r, hr, h⟩ := h
    have hn : r.2 = .new [] := lite_new hl (v := r.1) (e := r.2) hr
    rw [hn] at h
    simp only [Eff.grows, if_true, Option.some.injEq] at h
    subst h
    refine ⟨(v, .new []), ?_, by simp [Eff.grows]⟩
    simp only at hn
    subst hn
    by_cases hp : o'.i.pure = true
    · exact (execI_pure hp hr).2 H'
    · have hm := hH.resolve_left hp
      simp only [compOper, Option.bind_eq_some_iff, Option.map_eq_some_iff] at hc
      obtain ⟨g, hg, i, hi, rfl⟩ := hc
      simp only at hr hp hl hm ⊢
      cases i <;> simp [I.pure] at hp <;> try (simp [I.heavy] at hl; done)
      rename_i n x
      simp only [execI, Option.map_eq_some_iff, Prod.mk.injEq] at hr ⊢
      obtain ⟨q, hq, rfl, _⟩ := hr
      refine ⟨q, ?_, rfl, trivial⟩
      cases x with
      | c c => simp [I.heavy] at hl
      | t t =>
        have hrel := hf.rel t
        generalize hev : ev fr (.t t) = x at hq hm
        have hev' : fr.getD t .undef = x := hev
        rw [hev'] at hrel
        cases x with
        | ptr b L i o =>
          have hb' : b < H.length := by
            simp only [ldPl, Option.bind_eq_some_iff] at hq
            obtain ⟨k, hk, _⟩ := hq
            exact (List.getElem?_eq_some_iff.1 hk).1
          obtain ⟨L', r, hr⟩ := hrel.refs b (by simp [V.refs])
          rw [ld_block (hm b (by simp [I.rdB, hev]) hb' (hS.img b L' r hr).1)]
          exact hq
        | tptr cs o => exact hq
        | _ => simp [ldPl] at hq

/-- the run in the text's order, and what is known of the operations -/
structure Told (call : CallT) (pure : FuncId → Bool) (anc : List Nat) (os : List O) (S : Nat → St) (log : List Lg) : Prop where
  step : ∀ (i : Nat) (o : O), os[i]? = some o → ∃ v e, execV call pure o (S i).fr (S i).H = some (v, e) ∧ S (i + 1) = ⟨putV (S i).fr o.dst v, e.heap (S i).H, (S i).d || e.wr⟩ ∧ (∀ b bs, (i, b, bs) ∈ log ↔ (i, b, bs) ∈ lgE i (o.i.rdB (S i).fr) e)
  small : ∀ i, i < os.length → anc.getD i 0 < 2 ^ i
  one : ∀ (i j : Nat) (o o' : O), os[i]? = some o → os[j]? = some o' → j ≠ i → ∀ t, o'.dst = some t → o.dst ≠ some t ∧ (t ∈ o.reads → cmpA anc i j = true)
  ser : ∀ (i j : Nat) (o o' : O), os[i]? = some o → os[j]? = some o' → j ≠ i → o.i.heavy = true → o'.i.heavy = true → cmpA anc i j = true
  bar : ∀ i ids, (i, true, ids) ∈ log → ∀ (j : Nat) (o : O), os[j]? = some o → j ≠ i → o.i.pure = false → cmpA anc i j = true ∨ (o.i.heavy = false ∧ ∀ bs, (j, false, bs) ∈ log → ∀ b ∈ bs, b ∉ ids)

variable {l : List Oper} {anc : List Nat} {os : List O} {S : Nat → St} {log : List Lg}
theorem putV_len {fr : List V} {d : Option Nat} {v : V} : (putV fr d v).length = fr.length := by cases d <;> simp [putV]
theorem putV_ne {fr : List V} {d : Option Nat} {v : V} {t : Nat} (h : d ≠ some t) : (putV fr d v).getD t .undef = fr.getD t .undef := by
  cases d with
  | none => rfl
  | some d => simp only [putV, List.getD, List.getElem?_set_ne (show d ≠ t from fun e => h (by rw [e]))]
theorem putV_eq {fr fr' : List V} {d : Option Nat} {v : V} {t : Nat} (h : d = some t) (hl : fr.length = fr'.length) : (putV fr d v).getD t .undef = (putV fr' d v).getD t .undef := by
  subst h
  simp only [putV, List.getD, List.getElem?_set]
  by_cases ht : t < fr.length
  · have := hl ▸ ht; simp [ht, this]
  · have := hl ▸ ht; simp [ht, this]
theorem Told.fr_len (h : Told call pure anc os S log) : ∀ i, i ≤ os.length → (S i).fr.length = (S 0).fr.length
  | 0, _ => rfl
  | i + 1, hi => by
    obtain ⟨v, e, _, hs, _⟩ := h.step i os[i] (List.getElem?_eq_getElem (by omega))
    rw [hs]
    simp only [putV_len]
    exact h.fr_len i (by omega)
/-- a slot that nobody writes in between -/
theorem Told.fr_keep (h : Told call pure anc os S log) {t p : Nat} : ∀ {q : Nat}, p ≤ q → q ≤ os.length → (∀ k o, p ≤ k → k < q → os[k]? = some o → o.dst ≠ some t) → (S q).fr.getD t .undef = (S p).fr.getD t .undef
  | 0, hpq, hq, hn => by rw [show p = 0 by omega]
  | q + 1, hpq, hq, hn => by
    by_cases hp : p = q + 1
    · rw [hp]
    · obtain ⟨v, e, _, hs, _⟩ := h.step q os[q] (List.getElem?_eq_getElem (by omega))
      rw [hs]
      simp only
      rw [putV_ne (hn q os[q] (by omega) (by omega) (List.getElem?_eq_getElem (by omega)))]
      exact h.fr_keep (by omega) (by omega) fun k o h1 h2 => hn k o h1 (by omega)
/-- nobody makes or writes memory in between -/
theorem Told.same (h : Told call pure anc os S log) {p : Nat} : ∀ {q : Nat}, p ≤ q → q ≤ os.length → (∀ k o, p ≤ k → k < q → os[k]? = some o → o.i.heavy = false) → (S q).H = (S p).H ∧ (S q).d = (S p).d
  | 0, hpq, hq, hn => by rw [show p = 0 by omega]; exact ⟨rfl, rfl⟩
  | q + 1, hpq, hq, hn => by
    by_cases hp : p = q + 1
    · rw [hp]; exact ⟨rfl, rfl⟩
    · obtain ⟨v, e, hx, hs, _⟩ := h.step q os[q] (List.getElem?_eq_getElem (by omega))
      have hl := hn q os[q] (by omega) (by omega) (List.getElem?_eq_getElem (by omega))
      have he : e = .new [] := by
        simp only [execV, Option.bind_eq_some_iff] at hx
        obtain ⟨b, hb, hx⟩ := hx
        cases b
        · simp only [Bool.false_eq_true, if_false, Option.some.injEq, Prod.mk.injEq] at hx
          exact hx.2.symm
        · simp only [if_true, Option.bind_eq_some_iff] at hx
          obtain ⟨r, hr, hx⟩ := hx
          have hn := lite_new hl (v := r.1) (e := r.2) hr
          split at hx
          · injection hx with hx; rw [hx] at hn; exact hn
          · cases hx
      subst he
      obtain ⟨h1, h2⟩ := h.same (p := p) (q := q) (by omega) (by omega) fun k o h1 h2 => hn k o h1 (by omega)
      rw [hs]
      simp only [Eff.heap, List.append_nil, Eff.wr, Bool.or_false]
      exact ⟨h1, h2⟩
/-- nobody writes a block in between -/
theorem Told.keep (h : Told call pure anc os S log) {p b : Nat} : ∀ {q : Nat}, p ≤ q → q ≤ os.length → b < (S p).H.length → (∀ k ids, p ≤ k → k < q → (k, true, ids) ∈ log → b ∉ ids) → (S q).H[b]? = (S p).H[b]? ∧ (S p).H.length ≤ (S q).H.length
  | 0, hpq, hq, hb, hn => by rw [show p = 0 by omega]; exact ⟨rfl, Nat.le_refl _⟩
  | q + 1, hpq, hq, hb, hn => by
    by_cases hp : p = q + 1
    · rw [hp]; exact ⟨rfl, Nat.le_refl _⟩
    · obtain ⟨v, e, hx, hs, hw⟩ := h.step q os[q] (List.getElem?_eq_getElem (by omega))
      obtain ⟨h1, h2⟩ := h.keep (p := p) (b := b) (q := q) (by omega) (by omega) hb fun k ids h1 h2 => hn k ids h1 (by omega)
      have hlen := execV_len hx
      rw [hs]
      simp only
      refine ⟨?_, Nat.le_trans h2 hlen⟩
      rw [← h1]
      cases e with
      | new l' => simp only [Eff.heap]; rw [List.getElem?_append_left (by omega)]
      | upd H' ids =>
        simp only [Eff.heap]
        exact execV_keep hx b (by omega) (hn q ids (by omega) (by omega) ((hw true ids).2 (by simp [lgE])))
/-- what writes memory is heavy -/
theorem Told.heavy (h : Told call pure anc os S log) {i : Nat} {o : O} (ho : os[i]? = some o) {ids : List Nat} (hw : (i, true, ids) ∈ log) : o.i.heavy = true := by
  by_cases hl : o.i.heavy = true
  · exact hl
  · obtain ⟨v, e, hx, hs, hw'⟩ := h.step i o ho
    have he : e = .new [] := by
      simp only [execV, Option.bind_eq_some_iff] at hx
      obtain ⟨b, hb, hx⟩ := hx
      cases b
      · simp only [Bool.false_eq_true, if_false, Option.some.injEq, Prod.mk.injEq] at hx
        exact hx.2.symm
      · simp only [if_true, Option.bind_eq_some_iff] at hx
        obtain ⟨r, hr, hx⟩ := hx
        have hn := lite_new (by simpa using hl) (v := r.1) (e := r.2) hr
        split at hx
        · injection hx with hx; rw [hx] at hn; exact hn
        · cases hx
    have := (hw' true ids).1 hw
    rw [he] at this
    simp only [lgE] at this
    split at this <;> simp at this
/-- a light operation's look at memory is in the log -/
theorem Told.look (h : Told call pure anc os S log) {i : Nat} {o : O} (ho : os[i]? = some o) (hl : o.i.heavy = false) {b : Nat} (hb : b ∈ o.i.rdB (S i).fr) : (i, false, o.i.rdB (S i).fr) ∈ log := by
  obtain ⟨v, e, hx, hs, hw'⟩ := h.step i o ho
  refine (hw' false _).2 ?_
  have he : e = .new [] := by
    simp only [execV, Option.bind_eq_some_iff] at hx
    obtain ⟨b, hb, hx⟩ := hx
    cases b
    · simp only [Bool.false_eq_true, if_false, Option.some.injEq, Prod.mk.injEq] at hx
      exact hx.2.symm
    · simp only [if_true, Option.bind_eq_some_iff] at hx
      obtain ⟨r, hr, hx⟩ := hx
      have hn := lite_new hl (v := r.1) (e := r.2) hr
      split at hx
      · injection hx with hx; rw [hx] at hn; exact hn
      · cases hx
  rw [he]
  simp only [lgE]
  split
  · rename_i hem
    rw [List.isEmpty_iff.1 hem] at hb
    cases hb
  · simp
theorem rdB_congr {fr fr' : List V} {i : I} (h : ∀ t ∈ i.reads, fr.getD t .undef = fr'.getD t .undef) : i.rdB fr = i.rdB fr' := by
  cases i <;> simp only [I.rdB]
  rename_i n x
  rw [ev_congr (x := x) h]

/-- some operations have come up: what the slots hold, how far memory has come -/
structure DE (anc : List Nat) (os : List O) (S : Nat → St) (L : Nat → Bool) (m : Nat) (fe : List V) : Prop where
  cl : ∀ i j, i < os.length → L i = true → (anc.getD i 0).testBit j = true → L j = true
  le : m ≤ os.length
  hv : ∀ i o, os[i]? = some o → o.i.heavy = true → (L i = true ↔ i < m)
  fl : fe.length = (S 0).fr.length
  sl : ∀ t, (∃ i o, os[i]? = some o ∧ o.dst = some t ∧ L i = true ∧ fe.getD t .undef = (S (i + 1)).fr.getD t .undef) ∨ ((∀ i o, os[i]? = some o → o.dst = some t → L i = false) ∧ fe.getD t .undef = (S 0).fr.getD t .undef)

/-- one operation that is ready -/
theorem DE.next {l : List Oper} (hT : Told call pure anc os S log) {L : Nat → Bool} {m : Nat} {fe : List V} (h : DE anc os S L m fe) (hI : Inv Hs ρ0 F0 w0 ⟨fe, (S m).H, (S m).d⟩ a w) {i : Nat} {o : Oper} {o' : O} (ho' : os[i]? = some o') (hc : compOper P l o = some o') (hun : L i = false)
    (hanc : ∀ j, (anc.getD i 0).testBit j = true → L j = true) {L' : Nat → Bool} (hL : ∀ j, j < os.length → (L' j = true ↔ L j = true ∨ j = i)) :
    ∃ v m' s' wr, execO call pure o' ⟨fe, (S m).H, (S m).d⟩ = some (s', wr) ∧ s' = ⟨putV fe o'.dst v, (S m').H, (S m').d⟩ ∧ DE anc os S L' m' (putV fe o'.dst v) := by
  obtain ⟨hcl0, hm, hhv, hfl, hfe⟩ := h
  have hin : i < os.length := (List.getElem?_eq_some_iff.1 ho').1
  have hlt : ∀ {i j}, i < os.length → (anc.getD i 0).testBit j = true → j < i := fun hi hj => bit_lt (hT.small _ hi) hj
  have hcl' : ∀ i' j, i' < os.length → L' i' = true → (anc.getD i' 0).testBit j = true → L' j = true := by
    intro i' j hi0 hi' hj
    have hj' := hlt hi0 hj
    rw [hL _ (by omega)]
    rw [hL _ hi0] at hi'
    rcases hi' with hi' | rfl
    · exact .inl (hcl0 _ _ hi0 hi' hj)
    · exact .inl (hanc j hj)
  -- its slots hold what they held in the text's order
  have hag : ∀ t ∈ o'.reads, (S i).fr.getD t .undef = fe.getD t .undef := by
    intro t ht
    rcases hfe t with ⟨j, oj, hj, hd, hlj, hv⟩ | ⟨hno, hv⟩
    · have hji : j ≠ i := by rintro rfl; rw [hun] at hlj; cases hlj
      have hcmp := (hT.one i j o' oj ho' hj hji t hd).2 ht
      simp only [cmpA, Bool.or_eq_true] at hcmp
      have hjn : j < os.length := (List.getElem?_eq_some_iff.1 hj).1
      have hjlt : j < i := by
        rcases hcmp with hc1 | hc1
        · exact hlt hin hc1
        · exact absurd (hcl0 j i hjn hlj hc1) (by rw [hun]; simp)
      rw [hv]
      refine hT.fr_keep (by omega) (by omega) fun k ok h1 h2 hk hd' => ?_
      exact (hT.one k j ok oj hk hj (by omega) t hd).1 hd'
    · rw [hv]
      refine hT.fr_keep (by omega) (by omega) fun k ok h1 h2 hk hd' => ?_
      have hcmp := (hT.one i k o' ok ho' hk (by omega) t hd').2 ht
      simp only [cmpA, Bool.or_eq_true] at hcmp
      rcases hcmp with hc1 | hc1
      · have := hanc k hc1
        rw [hno k ok hk hd'] at this
        cases this
      · have := hlt (by omega) hc1
        omega
  obtain ⟨v, e, hx, hS1, hwr⟩ := hT.step i o' ho'
  rw [execV_congr hag] at hx
  -- the frame behind it
  have hfe' : ∀ t, (∃ i' o, os[i']? = some o ∧ o.dst = some t ∧ L' i' = true ∧ (putV fe o'.dst v).getD t .undef = (S (i' + 1)).fr.getD t .undef) ∨ ((∀ i' o, os[i']? = some o → o.dst = some t → L' i' = false) ∧ (putV fe o'.dst v).getD t .undef = (S 0).fr.getD t .undef) := by
    intro t
    by_cases hd : o'.dst = some t
    · refine .inl ⟨i, o', ho', hd, (hL _ hin).2 (.inr rfl), ?_⟩
      rw [hS1]
      exact putV_eq hd (by rw [hfl]; exact (hT.fr_len i (by omega)).symm)
    · rw [putV_ne hd]
      refine (hfe t).imp (fun ⟨j, oj, h1, h2, h3, h4⟩ => ⟨j, oj, h1, h2, (hL _ (List.getElem?_eq_some_iff.1 h1).1).2 (.inl h3), h4⟩) fun ⟨h1, h2⟩ => ⟨fun j oj hj hdj => ?_, h2⟩
      have : ¬ L' j = true := by
        rw [hL _ (List.getElem?_eq_some_iff.1 hj).1]
        rintro (h3 | rfl)
        · rw [h1 j oj hj hdj] at h3; cases h3
        · rw [ho'] at hj; injection hj with hj; rw [← hj] at hdj; exact hd hdj
      simpa using this
  have hfin : ∀ (s' : St) (wr' : Bool) (m' : Nat), execO call pure o' ⟨fe, (S m).H, (S m).d⟩ = some (s', wr') → s' = ⟨putV fe o'.dst v, (S m').H, (S m').d⟩ → m' ≤ os.length → (∀ j oj, os[j]? = some oj → oj.i.heavy = true → (L' j = true ↔ j < m')) → ∃ v m' s' wr, execO call pure o' ⟨fe, (S m).H, (S m).d⟩ = some (s', wr) ∧ s' = ⟨putV fe o'.dst v, (S m').H, (S m').d⟩ ∧ DE anc os S L' m' (putV fe o'.dst v) :=
    fun s' wr' m' hxo hs' hm' hh' => ⟨v, m', s', wr', hxo, hs', ⟨hcl', hm', hh', by rw [putV_len]; exact hfl, hfe'⟩⟩
  by_cases hv : o'.i.heavy = true
  · have him : m ≤ i := by
      have := mt (hhv i o' ho' hv).2 (by rw [hun]; simp)
      omega
    have hno : ∀ k ok, m ≤ k → k < i → os[k]? = some ok → ok.i.heavy = false := by
      intro k ok h1 h2 hk
      by_cases hkv : ok.i.heavy = true
      · have hcmp := hT.ser i k o' ok ho' hk (by omega) hv hkv
        simp only [cmpA, Bool.or_eq_true] at hcmp
        rcases hcmp with hc1 | hc1
        · have := (hhv k ok hk hkv).1 (hanc k hc1); omega
        · have := hlt (by omega) hc1; omega
      · simpa using hkv
    obtain ⟨e1, e2⟩ := hT.same him (by omega) hno
    refine hfin _ e.wr (i + 1) (by rw [execO, ← e1, hx]; rfl) ?_ (by omega) fun j oj hj hjv => ?_
    · rw [hS1]; simp only [e2]
    · rw [hL _ (List.getElem?_eq_some_iff.1 hj).1, hhv j oj hj hjv]
      constructor
      · rintro (h1 | rfl) <;> omega
      · intro h1
        by_cases hji : j = i
        · exact .inr hji
        · refine .inl ?_
          by_cases hjm : j < m
          · exact hjm
          · have := hno j oj (by omega) (by omega) hj
            rw [hjv] at this
            cases this
  · have hv' : o'.i.heavy = false := by simpa using hv
    obtain ⟨ρ, F, hE, hSm, hF, hD⟩ := hI.ex
    have hrd : o'.i.rdB (S i).fr = o'.i.rdB fe := rdB_congr fun t ht => hag t (by simp [O.reads, ht])
    have hmv := lite_moved hc hv' hF hSm hx (by
      by_cases hp : o'.i.pure = true
      · exact .inl hp
      · have hp' : o'.i.pure = false := by simpa using hp
        refine .inr fun b hb hb1 hb2 => ?_
        rw [← hrd] at hb
        have hlook := hT.look ho' hv' hb
        rcases Nat.le_total i m with him | him
        · exact (hT.keep him hm hb1 fun k ids h1 h2 hkw => by
            have hk := List.getElem?_eq_getElem (show k < os.length by omega)
            have hkv := hT.heavy hk hkw
            have hki : i ≠ k := by rintro rfl; rw [ho'] at hk; injection hk with hk; rw [← hk, hv'] at hkv; cases hkv
            rcases hT.bar k ids hkw i o' ho' hki hp' with hcmp | hoth
            · simp only [cmpA, Bool.or_eq_true] at hcmp
              exfalso
              rcases hcmp with hc1 | hc1
              · have := hcl0 k i (by omega) ((hhv k _ hk hkv).2 h2) hc1
                rw [hun] at this
                cases this
              · have := hlt hin hc1; omega
            · exact hoth.2 _ hlook b hb).1
        · exact ((hT.keep him (by omega) hb2 fun k ids h1 h2 hkw => by
            have hk := List.getElem?_eq_getElem (show k < os.length by omega)
            have hkv := hT.heavy hk hkw
            rcases hT.bar k ids hkw i o' ho' (by omega) hp' with hcmp | hoth
            · simp only [cmpA, Bool.or_eq_true] at hcmp
              exfalso
              rcases hcmp with hc1 | hc1
              · have := hlt (by omega) hc1; omega
              · have := (hhv k _ hk hkv).1 (hanc k hc1); omega
            · exact hoth.2 _ hlook b hb).1).symm)
    refine hfin _ false m (by rw [execO, hmv]; rfl) (by simp [Eff.heap, Eff.wr]) hm fun j oj hj hjv => ?_
    rw [hL _ (List.getElem?_eq_some_iff.1 hj).1, hhv j oj hj hjv]
    constructor
    · rintro (h1 | rfl)
      · exact h1
      · rw [ho'] at hj; injection hj with hj; rw [hj, hjv] at hv'; cases hv'
    · exact .inl
/-- when all have come up -/
theorem DE.fin (hT : Told call pure anc os S log) {L : Nat → Bool} {m : Nat} {fe : List V} (h : DE anc os S L m fe) (hall : ∀ i, i < os.length → L i = true) : S os.length = ⟨fe, (S m).H, (S m).d⟩ := by
  obtain ⟨-, hm, hhv, hfl, hfe⟩ := h
  obtain ⟨e1, e2⟩ := hT.same hm (Nat.le_refl _) fun k ok h1 h2 hk => by
    by_cases hkv : ok.i.heavy = true
    · have := (hhv k ok hk hkv).1 (hall k h2); omega
    · simpa using hkv
  have hfr : (S os.length).fr = fe := by
    refine List.ext_getElem (by rw [hfl]; exact hT.fr_len _ (Nat.le_refl _)) fun t h1 h2 => ?_
    have key : (S os.length).fr.getD t .undef = fe.getD t .undef := by
      rcases hfe t with ⟨i, o, ho, hd, hli, hv⟩ | ⟨hno, hv⟩
      · rw [hv]
        have := (List.getElem?_eq_some_iff.1 ho).1
        refine hT.fr_keep (by omega) (by omega) fun k ok h1 h2 hk hd' => ?_
        exact (hT.one k i ok o hk ho (by omega) t hd).1 hd'
      · rw [hv]
        refine hT.fr_keep (by omega) (by omega) fun k ok h1 h2 hk hd' => ?_
        have := hno k ok hk hd'
        rw [hall k h2] at this
        cases this
    simpa [List.getD, h1, h2] using key
  rw [← hfr, ← e1, ← e2]

theorem getD_set {listed : Array Bool} {i j : Nat} : (listed.setIfInBounds i true).getD j false = true ↔ listed.getD j false = true ∨ (j = i ∧ i < listed.size) := by
  simp only [Array.getD_eq_getD_getElem?, Array.getElem?_setIfInBounds]
  by_cases hij : i = j
  · subst hij
    by_cases hi : i < listed.size
    · simp [hi]
    · simp [hi]
  · rw [if_neg hij]
    constructor
    · exact .inl
    · rintro (h | ⟨h, _⟩)
      · exact h
      · exact absurd h.symm hij

theorem count_set {l : List Bool} {i : Nat} (h : l[i]? = some false) : (l.set i true).count false + 1 = l.count false := by
  induction l generalizing i with
  | nil => simp at h
  | cons b bs ih =>
    cases i with
    | zero => simp at h; subst h; simp
    | succ i =>
      simp at h
      have := ih h
      cases b <;> simp <;> omega
/-- who is ready: all that it waits for has come up -/
theorem ready_anc {ops : Array Oper} {listed : Array Bool} {i : Nat} (hr : i ∈ Region.ready .any ops listed) (hcl : ∀ i j, listed.getD i false = true → ((ancOf ops.toList).getD i 0).testBit j = true → listed.getD j false = true) (hsz : listed.size = ops.size) :
    (∃ o, ops.toList[i]? = some o) ∧ listed.getD i false = false ∧ ∀ j, ((ancOf ops.toList).getD i 0).testBit j = true → listed.getD j false = true := by
  obtain ⟨hun, o, ho, hall⟩ := mem_ready.1 hr
  have hol : ops.toList[i]? = some o := by simpa using ho
  have hin : i < ops.size := (Array.getElem?_eq_some_iff.1 ho).1
  refine ⟨⟨o, hol⟩, ?_, fun j hj => ?_⟩
  · simp only [Array.getD_eq_getD_getElem?, Array.getElem?_eq_getElem (show i < listed.size by omega), Option.getD_some] at hun ⊢
    exact hun
  · obtain ⟨e, he, hb, hj⟩ := anc_inv hol hj
    have := hall e he hb
    rcases hj with rfl | hj
    · exact this
    · exact hcl _ _ this hj
theorem none_ready {ops : Array Oper} {listed : Array Bool} (hsz : listed.size = ops.size) (hsm : ∀ i, i < ops.size → (ancOf ops.toList).getD i 0 < 2 ^ i) (hr : Region.ready .any ops listed = []) : ∀ i, i < ops.size → listed.getD i false = true := by
  have hall : ∀ n i, i < n → i < ops.size → listed.getD i false = true := by
    intro n
    induction n with
    | zero => intro i hi; omega
    | succ n ih =>
      intro i hi hio
      by_cases hli : listed.getD i false = true
      · exact hli
      · exfalso
        have : i ∈ Region.ready .any ops listed := by
          refine mem_ready.2 ⟨?_, ops[i], by simp [hio], fun e he hb => ?_⟩
          · have : i < listed.size := by rw [hsz]; exact hio
            simp only [Array.getD_eq_getD_getElem?, Array.getElem?_eq_getElem this, Option.getD_some] at hli ⊢
            simpa using hli
          · have hol : ops.toList[i]? = some ops[i] := by simp [hio]
            have := bit_lt (hsm i hio) (anc_dir hol he hb)
            exact ih e.on (by omega) (by omega)
        rw [hr] at this
        cases this
  exact fun i hi => hall (i + 1) i (by omega) hi
/-- any order, whatever is known of the states on the way -/
theorem any_gen (hcall : CallOk P call) {ops : Array Oper} (D : Array Bool → St → Prop)
    (hnext : ∀ (listed : Array Bool) (st : St) (i : Nat) (a : Act) (w : World), D listed st → listed.size = ops.size → Inv Hs ρ0 F0 w0 st a w → i ∈ Region.ready .any ops listed → ∃ o o', ops.toList[i]? = some o ∧ compOper P ops.toList o = some o' ∧ ∃ st' wr, execO call pure o' st = some (st', wr) ∧ D (listed.setIfInBounds i true) st')
    (hend : ∀ (listed : Array Bool) (st : St) (a : Act) (w : World), D listed st → listed.size = ops.size → Inv Hs ρ0 F0 w0 st a w → Region.ready .any ops listed = [] → Q .normal a w) :
    ∀ (fuel : Nat) (listed : Array Bool) (st : St) (a : Act) (w : World), listed.toList.count false = fuel → listed.size = ops.size → D listed st → Inv Hs ρ0 F0 w0 st a w → wpAny P .any ops Q fuel listed a w := by
  intro fuel
  induction fuel with
  | zero =>
    intro listed st a w hc hsz h hI
    have hr : Region.ready .any ops listed = [] := by
      cases hq : Region.ready .any ops listed with
      | nil => rfl
      | cons i is =>
        have hi : i ∈ Region.ready .any ops listed := by rw [hq]; simp
        obtain ⟨hun, o, ho, _⟩ := mem_ready.1 hi
        have hio : i < listed.size := by rw [hsz]; exact (Array.getElem?_eq_some_iff.1 ho).1
        have : false ∈ listed.toList := by
          simp only [Array.getD_eq_getD_getElem?, Array.getElem?_eq_getElem hio, Option.getD_some] at hun
          rw [← hun]
          simp
        have := List.count_pos_iff.2 this
        omega
    exact ⟨hr, hend listed st a w h hsz hI hr⟩
  | succ fuel ih =>
    intro listed st a w hc hsz h hI
    refine ⟨hend listed st a w h hsz hI, fun i hi => ?_⟩
    obtain ⟨hun, o0, ho0, _⟩ := mem_ready.1 hi
    have hio : i < listed.size := by rw [hsz]; exact (Array.getElem?_eq_some_iff.1 ho0).1
    obtain ⟨o, o', ho, hc', st', wr, hx, hD⟩ := hnext listed st i a w h hsz hI hi
    have ho2 : ops[i]? = some o := by simpa using ho
    have := hI.step hcall rfl hc' hx (K := wpAny P .any ops Q fuel (listed.setIfInBounds i true)) (Q := Q) fun a' w' hI' => ih _ st' _ _ (by
      have hf : listed.toList[i]? = some false := by
        simp only [Array.getD_eq_getD_getElem?, Array.getElem?_eq_getElem hio, Option.getD_some] at hun
        simp [hio, hun]
      have := count_set hf
      rw [Array.toList_setIfInBounds]
      omega) (by simpa using hsz) hD hI'
    unfold wpOp
    rw [ho2]
    simp only
    split
    · rename_i hw; rw [if_pos hw] at this; exact .inl this
    · rename_i hw; rw [if_neg hw] at this; exact this

/-- what a region's operations keep, from the run in a given order -/
theorem told_of {os : List O} {anc : List Nat} (hd : drawOk os anc = true) (hx : execOpsW call pure 0 os s = some (s', log)) (hb : barrier os anc log = true) : ∃ S : Nat → St, S 0 = s ∧ S os.length = s' ∧ Told call pure anc os S log := by
  obtain ⟨S, hS0, hSn, hwr, hst⟩ := execOpsW_seq hx
  simp only [drawOk, Bool.and_eq_true] at hd
  refine ⟨S, hS0, hSn, fun i o ho => ?_, fun i hi => ?_, fun i j o o' ho ho' hji t ht => ?_, fun i j o o' ho ho' hji h1 h2 => ?_, fun i ids hi j o ho hji hp => ?_⟩
  · simpa using hst i o ho
  · simpa using (drawGo_spec hd.1 i os[i] (List.getElem?_eq_getElem hi)).1
  · have := (drawGo_spec hd.1 i o ho).2
    have := drawOne_spec (by simpa using this) j o' ho' (by omega) t ht
    simpa using this
  · have hi := (List.getElem?_eq_some_iff.1 ho).1
    have hj := (List.getElem?_eq_some_iff.1 ho').1
    have := hd.2
    simp only [serialOk, List.all_eq_true, List.mem_range] at this
    have := this i hi j hj
    simpa [List.getD, ho, ho', h1, h2, hji] using this
  · have hj := (List.getElem?_eq_some_iff.1 ho).1
    have hbw : ∀ l2 : List Lg, barrierG os anc log l2 = true → (i, true, ids) ∈ l2 → barrierW os anc log i ids = true := by
      intro l2
      induction l2 with
      | nil => intro _ h; cases h
      | cons x l2 ih =>
        obtain ⟨k, w, bs⟩ := x
        intro h1 h2
        cases w with
        | false =>
          simp only [barrierG] at h1
          rcases List.mem_cons.1 h2 with h2 | h2
          · simp at h2
          · exact ih h1 h2
        | true =>
          simp only [barrierG, Bool.and_eq_true] at h1
          rcases List.mem_cons.1 h2 with h2 | h2
          · simp only [Prod.mk.injEq, true_and] at h2
            rw [h2.1, h2.2]; exact h1.1
          · exact ih h1.2 h2
    have := hbw log hb hi
    simp only [barrierW, List.all_eq_true, List.mem_range] at this
    have := this j hj
    simp only [List.getD, ho, Option.getD_some, hp, Bool.or_eq_true, beq_iff_eq, hji, false_or, Bool.false_eq_true, Bool.and_eq_true, Bool.not_eq_true', List.all_eq_true] at this
    refine this.imp (fun h => h) fun h => ⟨h.1, fun bs hbs b hb' => ?_⟩
    have := h.2 _ hbs
    simp only [bne_self_eq_false, Bool.false_eq_true, false_or, List.all_eq_true] at this
    have := this b hb'
    simpa using this
theorem rep_get {n : Nat} (i : Nat) : (Array.replicate n false).getD i false = false := by
  simp only [Array.getD_eq_getD_getElem?, Array.getElem?_replicate]
  split <;> rfl
theorem drw_sound (hcall : CallOk P call) (hm : P.follows .mixedOrders = true) (h : Inv Hs ρ0 F0 w0 s a w) {id : Nat} {ops : Array Oper} (hc : compOps P ops.toList ops.toList = some os) (hd : drawOk os (ancOf ops.toList) = true) (hx : execOpsW call pure 0 os s = some (s', log)) (hb : barrier os (ancOf ops.toList) log = true)
    (hQ : ∀ a' w', Inv Hs ρ0 F0 w0 s' a' w' → Q .normal a' w') : (Code.region id ops true).wp P Q a w := by
  obtain ⟨S, hS0, hSn, hT⟩ := told_of hd hx hb
  obtain ⟨hlen, hco⟩ := compOps_get hc
  have hlen' : os.length = ops.size := by rw [hlen]; simp
  refine wp_region_any hm (any_gen (pure := pure) hcall (fun listed st => (∀ i j, listed.getD i false = true → ((ancOf ops.toList).getD i 0).testBit j = true → listed.getD j false = true) ∧ ∃ m fe, st = ⟨fe, (S m).H, (S m).d⟩ ∧ DE (ancOf ops.toList) os S (fun i => listed.getD i false) m fe) ?_ ?_ _ _ s _ _ (by simp) (by simp) ?_ (h.drawn _))
  · rintro listed st i a w ⟨hcl, m, fe, rfl, hD⟩ hsz hI hr
    obtain ⟨⟨o, ho⟩, hun, hanc⟩ := ready_anc hr hcl hsz
    obtain ⟨o', ho', hc'⟩ := hco i o ho
    have hio : i < listed.size := by rw [hsz, ← hlen']; exact (List.getElem?_eq_some_iff.1 ho').1
    obtain ⟨v, m', s1, wr, h1, h2, h3⟩ := hD.next hT hI ho' hc' hun hanc (L' := fun j => (listed.setIfInBounds i true).getD j false) fun j _ => by
      show (listed.setIfInBounds i true).getD j false = true ↔ _
      rw [getD_set]
      exact ⟨fun h => h.imp (fun h => h) (·.1), fun h => h.imp (fun h => h) fun h => ⟨h, hio⟩⟩
    refine ⟨o, o', ho, hc', s1, wr, h1, fun i' j hi' hj => ?_, m', _, h2, h3⟩
    rw [getD_set] at hi' ⊢
    rcases hi' with hi' | ⟨rfl, _⟩
    · exact .inl (hcl _ _ hi' hj)
    · exact .inl (hanc j hj)
  · rintro listed st a w ⟨hcl, m, fe, rfl, hD⟩ hsz hI hr
    have hall := none_ready hsz (fun i hi => hT.small i (by omega)) hr
    have := hD.fin hT (fun i hi => hall i (by omega))
    refine hQ a w ?_
    rw [← hSn, this]
    exact hI
  · exact ⟨fun i j hi _ => (by rw [rep_get] at hi; cases hi), 0, s.fr, by rw [hS0], ⟨fun i j _ hi _ => (by rw [rep_get] at hi; cases hi), by omega, fun i o ho hv => (by rw [rep_get]; simp), by rw [hS0], fun t => .inr ⟨fun i o _ _ => rep_get i, by rw [hS0]⟩⟩⟩
/-! ### What makes memory in no order -/
theorem tw_app {h : Nat} {r : List Nat} : ∀ {l : List Nat}, h ∈ l → (l ++ r).takeWhile (· != h) = l.takeWhile (· != h)
  | [], hm => by cases hm
  | x :: l, hm => by
    simp only [List.cons_append, List.takeWhile_cons]
    split
    · rename_i hx
      have : h ≠ x := fun e => by subst e; simp at hx
      rw [tw_app ((List.mem_cons.1 hm).resolve_left this)]
    · rfl
theorem tw_ne {h x : Nat} : ∀ {l : List Nat}, x ∈ l.takeWhile (· != h) → x ≠ h
  | [], hm => by cases hm
  | y :: l, hm => by
    simp only [List.takeWhile_cons] at hm
    split at hm
    · rename_i hy
      rcases List.mem_cons.1 hm with rfl | hm
      · simpa using hy
      · exact tw_ne hm
    · cases hm
theorem befo_done {dn τ : List Nat} (hp : dn <+: τ) {h h' : Nat} (hm : h ∈ dn) (hb : befo τ h' h = true) : h' ∈ dn ∧ h' ≠ h := by
  obtain ⟨r, rfl⟩ := hp
  unfold befo at hb
  rw [tw_app hm, List.contains_iff_mem] at hb
  exact ⟨List.takeWhile_subset _ hb, tw_ne hb⟩
theorem drx_sound (hcall : CallOk P call) (hm : P.follows .mixedOrders = true) (h : Inv Hs ρ0 F0 w0 s a w) {id : Nat} {ops : Array Oper} (hc : compOps P ops.toList ops.toList = some os) {alts : List (List O × List Nat)} (hd : drawAlts os (ancOf ops.toList) = some alts)
    (hx : ∀ x ∈ alts, ∃ s1 log, execOpsW call pure 0 x.1 s = some (s1, log) ∧ barrier x.1 x.2 log = true)
    (hQ : ∀ x ∈ alts, ∀ s1 log, execOpsW call pure 0 x.1 s = some (s1, log) → ∀ a' w', Inv Hs ρ0 F0 w0 s1 a' w' → Q .normal a' w') : (Code.region id ops true).wp P Q a w := by
  obtain ⟨hlen, hco⟩ := compOps_get hc
  have hlen' : os.length = ops.size := by rw [hlen]; simp
  unfold drawAlts at hd
  split at hd
  case isFalse => cases hd
  split at hd
  case isFalse => cases hd
  rename_i hck
  injection hd with hd
  simp only [Bool.and_eq_true, List.all_eq_true, List.mem_range, decide_eq_true_eq, Bool.not_eq_true'] at hck
  obtain ⟨⟨⟨hsm, hlin⟩, hok⟩, hne⟩ := hck
  generalize hA : ancOf ops.toList = anc at *
  generalize orders os anc = lins at *
  have hmemA : ∀ τ ∈ lins, (altOps os (lineUp os.length anc τ), altAnc anc τ (lineUp os.length anc τ)) ∈ alts := fun τ hτ => by rw [← hd]; exact List.mem_map.2 ⟨τ, hτ, rfl⟩
  -- the runs
  have hS : ∀ τ, ∃ S : Nat → St, τ ∈ lins → S 0 = s ∧ (∃ log, execOpsW call pure 0 (altOps os (lineUp os.length anc τ)) s = some (S (altOps os (lineUp os.length anc τ)).length, log)) ∧ ∃ log, Told call pure (altAnc anc τ (lineUp os.length anc τ)) (altOps os (lineUp os.length anc τ)) S log := by
    intro τ
    by_cases hτ : τ ∈ lins
    · obtain ⟨s1, log, h1, h2⟩ := hx _ (hmemA τ hτ)
      have hk := hok τ hτ
      simp only [altOk, Bool.and_eq_true] at hk
      obtain ⟨S, e0, e1, hT⟩ := told_of hk.1.2 h1 h2
      exact ⟨S, fun _ => ⟨e0, ⟨log, by rw [h1, e1]⟩, log, hT⟩⟩
    · exact ⟨fun _ => s, fun h => absurd h hτ⟩
  obtain ⟨S, hS⟩ := Classical.axiomOfChoice hS
  -- what is known of an order
  have hpi : ∀ τ ∈ lins, (lineUp os.length anc τ).length = os.length ∧ (∀ i, i < os.length → ∃ p, p < os.length ∧ (lineUp os.length anc τ).getD p 0 = i) ∧ (∀ p q, p < os.length → q < os.length → (lineUp os.length anc τ).getD p 0 = (lineUp os.length anc τ).getD q 0 → p = q) ∧ (∀ p, p < os.length → (lineUp os.length anc τ).getD p 0 < os.length) ∧
      (∀ h ∈ τ, h < os.length ∧ hvy os h = true) ∧ ∀ p q, p < os.length → q < os.length → ((altAnc anc τ (lineUp os.length anc τ)).getD p 0).testBit q = true → needs anc τ ((lineUp os.length anc τ).getD p 0) ((lineUp os.length anc τ).getD q 0) = true := by
    intro τ hτ
    have hk := hok τ hτ
    simp only [altOk, Bool.and_eq_true, List.all_eq_true, List.mem_range, beq_iff_eq, List.contains_iff_mem, Bool.or_eq_true, bne_iff_ne, ne_eq, decide_eq_true_eq, Bool.not_eq_true'] at hk
    obtain ⟨⟨⟨⟨⟨⟨k1, k2⟩, k3⟩, k4⟩, k5⟩, -⟩, k6⟩ := hk
    refine ⟨k1, fun i hi => ?_, fun p q hp hq e => (k3 p hp q hq).resolve_right fun h => h e, fun p hp => ?_, k5, fun p q hp hq hb => (k6 p hp q hq).resolve_left fun h => by rw [h] at hb; cases hb⟩
    · obtain ⟨p, hp, e⟩ := List.getElem_of_mem (k2 i hi)
      exact ⟨p, by omega, by simp [List.getD, hp, e]⟩
    · have hp' : p < (lineUp os.length anc τ).length := by omega
      have := k4 _ (List.getElem_mem hp')
      simpa [List.getD, hp'] using this
  have hget : ∀ τ ∈ lins, ∀ p, p < os.length → (altOps os (lineUp os.length anc τ))[p]? = os[(lineUp os.length anc τ).getD p 0]? := by
    intro τ hτ p hp
    obtain ⟨k1, -, -, k4, -⟩ := hpi τ hτ
    have hp' : p < (lineUp os.length anc τ).length := by omega
    have h4 := k4 p hp
    simp only [List.getD, List.getElem?_eq_getElem hp', Option.getD_some] at h4 ⊢
    simp [altOps, hp', List.getD, h4]
  have hal : ∀ τ ∈ lins, (altOps os (lineUp os.length anc τ)).length = os.length := fun τ hτ => by simp [altOps, (hpi τ hτ).1]
  refine wp_region_any hm (any_gen (pure := pure) hcall (fun listed st => (∀ i j, listed.getD i false = true → (anc.getD i 0).testBit j = true → listed.getD j false = true) ∧ ∃ dn : List Nat, (∀ i o, os[i]? = some o → o.i.heavy = true → (listed.getD i false = true ↔ i ∈ dn)) ∧ (∃ τ ∈ lins, dn <+: τ) ∧
    ∀ τ ∈ lins, dn <+: τ → ∃ m fe, st = ⟨fe, (S τ m).H, (S τ m).d⟩ ∧ DE (altAnc anc τ (lineUp os.length anc τ)) (altOps os (lineUp os.length anc τ)) (S τ) (fun p => listed.getD ((lineUp os.length anc τ).getD p 0) false) m fe) ?_ ?_ _ _ s _ _ (by simp) (by simp) ?_ (h.drawn _))
  · rintro listed st i a w ⟨hcl, dn, hdn, ⟨τ0, hτ0, hp0⟩, hD⟩ hsz hI hr
    obtain ⟨⟨o, ho⟩, hun, hanc⟩ := ready_anc hr (by rw [hA]; exact hcl) hsz
    rw [hA] at hanc
    obtain ⟨o', ho', hc'⟩ := hco i o ho
    have hin : i < os.length := (List.getElem?_eq_some_iff.1 ho').1
    have hio : i < listed.size := by omega
    have hidn : o'.i.heavy = true → i ∉ dn := fun hv hi => by
      have := (hdn i o' ho' hv).2 hi
      rw [hun] at this; cases this
    have hvl : ∀ h, h < os.length → hvy os h = true → (listed.getD h false = true ↔ h ∈ dn) := by
      intro h hh hv
      have e := List.getElem?_eq_getElem hh
      refine hdn h _ e ?_
      simpa [hvy, List.getD, e] using hv
    -- one order in which i comes next
    have one : ∀ τ ∈ lins, dn <+: τ → (o'.i.heavy = true → dn ++ [i] <+: τ) → ∃ v m' s' wr, execO call pure o' st = some (s', wr) ∧ s' = ⟨s'.fr, (S τ m').H, (S τ m').d⟩ ∧
        DE (altAnc anc τ (lineUp os.length anc τ)) (altOps os (lineUp os.length anc τ)) (S τ) (fun p => (listed.setIfInBounds i true).getD ((lineUp os.length anc τ).getD p 0) false) m' s'.fr ∧ v = s' := by
      intro τ hτ hp hpi'
      obtain ⟨k1, k2, k3, k4, k5, k6⟩ := hpi τ hτ
      obtain ⟨-, -, log, hT⟩ := hS τ hτ
      obtain ⟨m, fe, rfl, hDE⟩ := hD τ hτ hp
      obtain ⟨p, hpn, hpe⟩ := k2 i hin
      have hop : (altOps os (lineUp os.length anc τ))[p]? = some o' := by rw [hget τ hτ p hpn, hpe]; exact ho'
      have hbef : ∀ h h', h ∈ τ → (i = h ∨ (anc.getD i 0).testBit h = true) → befo τ h' h = true → h' ∈ dn := by
        intro h h' hh hih hb
        rcases hih with rfl | hih
        · have hv : o'.i.heavy = true := by
            have := (k5 i hh).2
            simpa [hvy, List.getD, ho'] using this
          obtain ⟨hm', hne'⟩ := befo_done (hpi' hv) (List.mem_append.2 (.inr (List.mem_singleton.2 rfl))) hb
          rcases List.mem_append.1 hm' with h1 | h1
          · exact h1
          · exact absurd (List.mem_singleton.1 h1) hne'
        · have hld := hanc h hih
          exact (befo_done hp ((hvl h (k5 h hh).1 (k5 h hh).2).1 hld) hb).1
      obtain ⟨v, m', s', wr, e1, e2, e3⟩ := hDE.next hT hI hop hc' (by simp only [hpe]; exact hun) (fun q hq => by
        have hqp := bit_lt (hT.small p (by rw [hal τ hτ]; exact hpn)) hq
        have := k6 p q hpn (by omega) hq
        rw [hpe] at this
        simp only [needs, Bool.or_eq_true, List.any_eq_true, Bool.and_eq_true, beq_iff_eq] at this
        rcases this with h1 | ⟨h, hh, hih, h', hh', hb, hj⟩
        · exact hanc _ h1
        · have hd' := hbef h h' hh hih hb
          have hl' := (hvl h' (k5 h' hh').1 (k5 h' hh').2).2 hd'
          rcases hj with hj | hj
          · rw [hj]; exact hl'
          · exact hcl _ _ hl' hj) (L' := fun q => (listed.setIfInBounds i true).getD ((lineUp os.length anc τ).getD q 0) false) (fun q hq => by
        show (listed.setIfInBounds i true).getD _ false = true ↔ _
        rw [hal τ hτ] at hq
        rw [getD_set]
        exact ⟨fun h => h.imp (fun h => h) fun h => k3 q p hq hpn (by rw [hpe]; exact h.1), fun h => h.imp (fun h => h) fun h => ⟨by rw [h, hpe], hio⟩⟩)
      refine ⟨s', m', s', wr, e1, ?_, ?_, rfl⟩
      · rw [e2]
      · rw [e2]; exact e3
    have hcl' : ∀ i' j, (listed.setIfInBounds i true).getD i' false = true → (anc.getD i' 0).testBit j = true → (listed.setIfInBounds i true).getD j false = true := by
      intro i' j hi' hj
      rw [getD_set] at hi' ⊢
      rcases hi' with hi' | ⟨rfl, _⟩
      · exact .inl (hcl _ _ hi' hj)
      · exact .inl (hanc j hj)
    by_cases hv : o'.i.heavy = true
    · -- it is heavy: the order goes on with it
      have hex : ∃ τ ∈ lins, dn ++ [i] <+: τ := by
        have hlk := hlin
        simp only [linsOk, List.all_eq_true, List.mem_range] at hlk
        have hle : dn.length < τ0.length + 1 := by have := hp0.length_le; omega
        have := hlk τ0 hτ0 dn.length hle i (by simp only [heavyIdx, List.mem_filter, List.mem_range]; exact ⟨hin, by simp only [hvy, List.getD, ho', Option.getD_some]; exact hv⟩)
        rw [show τ0.take dn.length = dn from (List.prefix_iff_eq_take.1 hp0).symm] at this
        simp only [Bool.or_eq_true, List.contains_iff_mem, List.any_eq_true, Bool.and_eq_true, Bool.not_eq_true', List.isPrefixOf_iff_prefix] at this
        rcases this with (h1 | ⟨j, hj, hb, hnj⟩) | ⟨τ, hτ, hp⟩
        · exact absurd h1 (hidn hv)
        · simp only [heavyIdx, List.mem_filter, List.mem_range] at hj
          have := (hvl j hj.1 hj.2).1 (hanc j hb)
          rw [← List.contains_iff_mem, hnj] at this
          cases this
        · exact ⟨τ, hτ, hp⟩
      obtain ⟨τ1, hτ1, hp1⟩ := hex
      have hpre : ∀ τ, dn ++ [i] <+: τ → dn <+: τ := fun τ h => (List.prefix_append _ _).trans h
      obtain ⟨v, m', s', wr, e1, e2, e3, -⟩ := one τ1 hτ1 (hpre _ hp1) fun _ => hp1
      refine ⟨o, o', ho, hc', s', wr, e1, hcl', dn ++ [i], fun j oj hj hjv => ?_, ⟨τ1, hτ1, hp1⟩, fun τ hτ hp => ?_⟩
      · rw [getD_set, hdn j oj hj hjv]
        simp only [List.mem_append, List.mem_singleton]
        exact ⟨fun h => h.imp (fun h => h) (·.1), fun h => h.imp (fun h => h) fun h => ⟨h, hio⟩⟩
      · obtain ⟨v2, m2, s2, wr2, f1, f2, f3, -⟩ := one τ hτ (hpre _ hp) fun _ => hp
        rw [e1] at f1
        injection f1 with f1
        injection f1 with f1 _
        subst f1
        exact ⟨m2, _, f2, f3⟩
    · obtain ⟨v, m', s', wr, e1, e2, e3, -⟩ := one τ0 hτ0 hp0 fun h => absurd h hv
      refine ⟨o, o', ho, hc', s', wr, e1, hcl', dn, fun j oj hj hjv => ?_, ⟨τ0, hτ0, hp0⟩, fun τ hτ hp => ?_⟩
      · rw [getD_set, hdn j oj hj hjv]
        exact ⟨fun h => h.elim (fun h => h) fun h => by
          obtain ⟨rfl, _⟩ := h
          rw [ho'] at hj; injection hj with hj; rw [hj] at hv; exact absurd hjv hv, .inl⟩
      · obtain ⟨v2, m2, s2, wr2, f1, f2, f3, -⟩ := one τ hτ hp fun h => absurd h hv
        rw [e1] at f1
        injection f1 with f1
        injection f1 with f1 _
        subst f1
        exact ⟨m2, _, f2, f3⟩
  · rintro listed st a w ⟨hcl, dn, hdn, ⟨τ0, hτ0, hp0⟩, hD⟩ hsz hI hr
    have hall := none_ready hsz (fun i hi => by rw [hA]; exact hsm i (by omega)) hr
    obtain ⟨m, fe, rfl, hDE⟩ := hD τ0 hτ0 hp0
    obtain ⟨k1, k2, k3, k4, k5, k6⟩ := hpi τ0 hτ0
    obtain ⟨-, ⟨log, hrun⟩, log2, hT⟩ := hS τ0 hτ0
    have := hDE.fin hT (fun p hp => hall _ (by rw [hal τ0 hτ0] at hp; have := k4 p hp; omega))
    refine hQ _ (hmemA τ0 hτ0) _ log hrun a w ?_
    rw [this]
    exact hI
  · refine ⟨fun i j hi _ => (by rw [rep_get] at hi; cases hi), [], fun i o _ _ => (by rw [rep_get]; simp), ?_, fun τ hτ _ => ?_⟩
    · cases hl : lins with
      | nil => rw [hl] at hne; cases hne
      | cons τ _ => exact ⟨τ, by simp, List.nil_prefix⟩
    · obtain ⟨h0, -, -⟩ := hS τ hτ
      exact ⟨0, s.fr, by rw [h0], ⟨fun i j _ hi _ => (by rw [rep_get] at hi; cases hi), by omega, fun i o ho hv => (by rw [rep_get]; simp), by rw [h0], fun t => .inr ⟨fun i o _ _ => rep_get _, by rw [h0]⟩⟩⟩
end
end Go.AM
