/- Regions: operations in line; what a drawn region's operations leave each other. -/
import Derived.Test.YtdgineiemjplhaaAmOpB
set_option linter.unusedVariables false
set_option linter.unusedSimpArgs false
namespace Go.AM
open Go Go.RowKit

/-- the state of a function's run, against the one in which it began -/
structure Inv (Hs : Heap) (ρ0 : Rho) (F0 : Fz) (w0 : World) (s : St) (a : Act) (w : World) : Prop where
  ok : HOk s.H
  len : Hs.length ≤ s.H.length
  same : s.d = false → s.H.take Hs.length = Hs
  df : a.defers = []
  ex : ∃ ρ F, Ext ρ0 F0 w0 ρ F w ∧ Sim ρ F s.H w ∧ FrOk ρ F s.fr a.tmps ∧ (s.d = false → ∀ b L r, ρ b L = some r → b < Hs.length → ρ0 b L = some r)

section
variable {P : Program} {ρ : Rho} {F : Fz} {H : Heap} {w : World} {fr : List V} {a : Act} {call : CallT} {pure : FuncId → Bool}

theorem wanted_eq (hf : FrOk ρ F fr a.tmps) {ops : Array Oper} {l : List Oper} (hl : ops.toList = l) {o : Oper} {g : Option (Nat × Bool)} {b : Bool} (hg : compGuard l o.guard = some g) (hw : wantedO fr g = some b) : Region.wanted o (yielded ops a.tmps) = b := by
  subst hl
  cases hgd : o.guard with
  | none =>
    rw [hgd] at hg
    simp [compGuard] at hg
    subst hg
    simp [wantedO] at hw
    subst hw
    simp [Region.wanted, hgd]
  | some p =>
    obtain ⟨j, want⟩ := p
    rw [hgd] at hg
    simp only [compGuard, Option.bind_eq_some_iff, Option.map_eq_some_iff] at hg
    obtain ⟨oj, hoj, d, hd, rfl⟩ := hg
    have hoj' : ops[j]? = some oj := by simpa using hoj
    have hr := hf.rel d
    simp only [wantedO] at hw
    have hy : yielded ops a.tmps j = match a.tmps[d]? with | some (.bool b) => some b | _ => none := by
      simp only [yielded, hoj', Option.bind_some, hd]
      rfl
    split at hw
    · rename_i c hc
      injection hw with hw
      subst hw
      rw [hc] at hr
      have hb := hr.bool_inv
      have hs : a.tmps[d]? = some (.bool c) := by
        rw [Array.getD_eq_getD_getElem?] at hb
        cases hq : a.tmps[d]? with
        | none => rw [hq] at hb; simp [Go.undef] at hb
        | some q => rw [hq] at hb; simpa using hb
      simp only [Region.wanted, hgd, hy, hs]
      cases c <;> cases want <;> rfl
    · rename_i hc
      injection hw with hw
      subst hw
      rw [hc] at hr
      obtain ⟨us, hb, h1⟩ := hr.tup_inv
      have hs : ∀ q, a.tmps[d]? = some (.bool q) → False := by
        intro q hq
        rw [Array.getD_eq_getD_getElem?, hq] at hb
        simp at hb
      simp only [Region.wanted, hgd, hy]
      cases hq : a.tmps[d]? with
      | none => simp
      | some q => cases q <;> simp_all
    · cases hw

/-- an operation, wanted or not -/
theorem execV_sound (hcall : CallOk P call) (hok : HOk H) (hs : Sim ρ F H w) (hf : FrOk ρ F fr a.tmps) {ops : Array Oper} {l : List Oper} (hl : ops.toList = l) {o : Oper} {o' : O} (hc : compOper P l o = some o') {v : V} {e : Eff} (hx : execV call pure o' fr H = some (v, e))
    {K : Act → World → Prop} {Q : Exit → Act → World → Prop} (hK : ∀ u w', Step ρ F H w v e u w' → K (a.put o.dst u) w') : if Region.wanted o (yielded ops a.tmps) then o.wp P a w K Q else K (a.put o.dst Go.undef) w := by
  simp only [compOper, Option.bind_eq_some_iff, Option.map_eq_some_iff] at hc
  obtain ⟨g, hg, i, hi, rfl⟩ := hc
  simp only [execV, Option.bind_eq_some_iff] at hx
  obtain ⟨b, hb, hx⟩ := hx
  rw [wanted_eq hf hl hg hb]
  cases b
  · simp only [Bool.false_eq_true, if_false, Option.some.injEq, Prod.mk.injEq] at hx ⊢
    obtain ⟨rfl, rfl⟩ := hx
    exact hK _ _ (Step.pure hok hs (Rel.tup [] [] rfl (by simp)))
  · simp only [if_true, Option.bind_eq_some_iff] at hx ⊢
    obtain ⟨r, hr, hx⟩ := hx
    split at hx
    · injection hx with hx
      subst hx
      exact execI_sound hcall hok hs hf hi hr K Q hK
    · cases hx

theorem execV_len {o : O} {v : V} {e : Eff} (hx : execV call pure o fr H = some (v, e)) : H.length ≤ (e.heap H).length := by
  simp only [execV, Option.bind_eq_some_iff] at hx
  obtain ⟨b, hb, hx⟩ := hx
  cases b
  · simp only [Bool.false_eq_true, if_false, Option.some.injEq, Prod.mk.injEq] at hx
    rw [← hx.2]
    simp [Eff.heap]
  · simp only [if_true, Option.bind_eq_some_iff] at hx
    obtain ⟨r, hr, hx⟩ := hx
    split at hx
    · rename_i hg
      injection hx with hx
      subst hx
      cases e with
      | new l => simp [Eff.heap]
      | upd H' ids => simpa [Eff.grows, Eff.heap] using hg
    · cases hx

theorem Eff.take_new {H : Heap} {e : Eff} (h : e.wr = false) : ∃ l, e = .new l ∧ e.heap H = H ++ l := by
  cases e with
  | new l => exact ⟨l, rfl, rfl⟩
  | upd H' ids => simp [Eff.wr] at h

/-- one operation of a run in line -/
theorem Inv.step {Hs : Heap} {ρ0 : Rho} {F0 : Fz} {w0 : World} {s s' : St} {wr : Bool} (hcall : CallOk P call) (h : Inv Hs ρ0 F0 w0 s a w) {ops : Array Oper} {l : List Oper} (hl : ops.toList = l) {o : Oper} {o' : O} (hc : compOper P l o = some o') (hx : execO call pure o' s = some (s', wr))
    {K : Act → World → Prop} {Q : Exit → Act → World → Prop} (hK : ∀ a' w', Inv Hs ρ0 F0 w0 s' a' w' → K a' w') : if Region.wanted o (yielded ops a.tmps) then o.wp P a w K Q else K (a.put o.dst Go.undef) w := by
  have hn := h.len
  obtain ⟨ρ, F, hE, hS, hF, hD⟩ := h.ex
  simp only [execO, Option.map_eq_some_iff] at hx
  obtain ⟨⟨v, e⟩, hx, he⟩ := hx
  injection he with h1 h2
  subst h1
  refine execV_sound hcall h.ok hS hF hl hc hx fun u w' hst => hK _ _ ?_
  obtain ⟨ρ', F', hE', hS', hR', hloc⟩ := hst.ex
  have hdst : o'.dst = o.dst := by
    simp only [compOper, Option.bind_eq_some_iff, Option.map_eq_some_iff] at hc
    obtain ⟨g, hg, i, hi, rfl⟩ := hc
    rfl
  refine ⟨hst.ok, Nat.le_trans hn (execV_len hx), fun hd => ?_, ?_, ρ', F', hE.trans hE', hS', ?_, fun hd b L r hr hb => ?_⟩
  · simp only [Bool.or_eq_false_iff] at hd
    obtain ⟨l', rfl, hh⟩ := Eff.take_new (H := s.H) hd.2
    rw [hh, List.take_append_of_le_length hn]
    exact h.same hd.1
  · cases hq : o.dst <;> simp [Act.put, h.df]
  · rw [hdst]
    exact (hF.mono hE'.rho hE'.fle).put o.dst hR'
  · simp only [Bool.or_eq_false_iff] at hd
    obtain ⟨l', rfl, hh⟩ := Eff.take_new (H := s.H) hd.2
    exact hD hd.1 b L r (hloc l' rfl b L r hr (by omega)) hb
end
end Go.AM
