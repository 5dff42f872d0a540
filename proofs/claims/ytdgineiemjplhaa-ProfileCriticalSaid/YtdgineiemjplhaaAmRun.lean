/- A function's run: its code, the state that its loops carry, its results; calls. -/
import Derived.Test.YtdgineiemjplhaaAmRegD
set_option linter.unusedVariables false
set_option linter.unusedSimpArgs false
namespace Go.AM
open Go Go.RowKit

section
variable {P : Program} {ρ ρ0 : Rho} {F F0 : Fz} {H H' Hs : Heap} {w w0 : World} {fr : List V} {a : Act} {call : CallT} {pure : FuncId → Bool} {s s' : St} {Q : Exit → Act → World → Prop}

def selR (ρ : Rho) (ids : List Nat) : Rho := fun i L => if i < ids.length then ρ (ids.getD i 0) L else Option.none
theorem range_pre {n : Nat} {ids : List Nat} (hp : ∃ l, ids = List.range n ++ l) : n ≤ ids.length ∧ ∀ b, b < n → ids[b]? = some b := by
  obtain ⟨l, rfl⟩ := hp
  exact ⟨by simp, fun b hb => by rw [List.getElem?_append_left (by simpa using hb)]; simp [hb]⟩
/-- some of the heap's blocks, the first n as they are -/
theorem sel_core {n : Nat} {ids : List Nat} (hE : Ext ρ0 F0 w0 ρ F w) (hS : Sim ρ F H w) (hok : HOk H) (hd0 : ∀ b L r, ρ0 b L = some r → b < n) (hpre : ∃ l, ids = List.range n ++ l) (hn : ids.Nodup) (hp : pickH H (place ids) ids = some H') :
    Ext ρ0 F0 w0 (selR ρ ids) F w ∧ Sim (selR ρ ids) F H' w ∧ HOk H' ∧ n ≤ H'.length ∧ (HCl Hs n → Hs.length = n → H.take n = Hs → H'.take n = Hs) ∧ ∀ b L r, selR ρ ids b L = some r → b < n → ρ b L = some r := by
  obtain ⟨h1, h2⟩ := range_pre hpre
  obtain ⟨e1, e2⟩ := pickH_get hp
  have hg : ∀ b, b < n → ids.getD b 0 = b := fun b hb => by simp [List.getD, h2 b hb]
  refine ⟨⟨hE.os, hE.tape, hE.output, hE.size, hE.keep, fun b L r hr => ?_, fun b L r hr => ?_, hE.fle, hE.fnew⟩, hS.pick hok hn hp, pickH_ok hp hok, by omega, fun hc hl ht => ?_, fun b L r hr hb => ?_⟩
  · have hb := hd0 b L r hr
    simp only [selR]
    rw [if_pos (by omega), hg b hb]
    exact hE.rho b L r hr
  · simp only [selR] at hr
    split at hr
    · rename_i hb
      rcases hE.new _ L r hr with ⟨L0, r0, h0, e0⟩ | h0
      · have hc := hd0 _ _ _ h0
        have hcb : ids[ids.getD b 0]? = some (ids.getD b 0) := h2 _ hc
        have hbb : ids[b]? = some (ids.getD b 0) := by simp [List.getD, hb]
        have : ids.getD b 0 = b := by
          obtain ⟨p1, p2⟩ := List.getElem?_eq_some_iff.1 hcb
          obtain ⟨q1, q2⟩ := List.getElem?_eq_some_iff.1 hbb
          exact (List.getElem_inj hn).1 (p2.trans q2.symm)
        rw [this] at h0
        exact .inl ⟨L0, r0, h0, e0⟩
      · exact .inr h0
    · cases hr
  · refine List.ext_getElem (by simp; omega) fun i h3 h4 => ?_
    have hi : i < n := by omega
    rw [List.getElem_take]
    obtain ⟨b, k, q1, q2, q3⟩ := e2 i H'[i] (List.getElem?_eq_getElem (by omega))
    rw [h2 i hi] at q1
    injection q1 with q1
    subst q1
    have hk : Hs[i]? = some k := by rw [← ht, List.getElem?_take, if_pos hi]; exact q2
    have hk' : k = Hs[i] := by
      obtain ⟨_, p⟩ := List.getElem?_eq_some_iff.1 hk
      exact p.symm
    rw [← hk']
    exact Blk.ren_id (n := n) (fun b hb => place_of hn (h2 b hb)) (fun hb e he => hc k (List.mem_of_getElem? hk) hb e he) q3
  · simp only [selR] at hr
    rw [if_pos (by omega), hg b hb] at hr
    exact hr
theorem renL_rel {ids : List Nat} {vs vs' : List V} {us : List Value} (h : RelL ρ F vs us) (hr : renL (place ids) vs = some vs') : RelL (selR ρ ids) F vs' us := by
  obtain ⟨e1, e2⟩ := renL_get hr
  refine ⟨by rw [e1]; exact h.1, fun j v u hv hu => ?_⟩
  obtain ⟨v0, h0, h1⟩ := e2 j v hv
  exact (h.2 j v0 u h0 hu).ren place_rho v h1
theorem maskF_get {live : List Nat} {fr : List V} (t : Nat) : (maskF live fr).getD t .undef = fr.getD t .undef ∨ (maskF live fr).getD t .undef = .undef := by
  simp only [maskF, List.getD, List.getElem?_mapIdx]
  cases fr[t]? with
  | none => exact .inr rfl
  | some v =>
    simp only [Option.map_some, Option.getD_some]
    split
    · exact .inl rfl
    · exact .inr rfl
/-- what a loop carries from round to round -/
theorem Inv.tidy (hcl : HCl Hs Hs.length) (hd0 : ∀ b L r, ρ0 b L = some r → b < Hs.length) (h : Inv Hs ρ0 F0 w0 s a w) {live : List Nat} (ht : tidy live Hs.length s = some s') : Inv Hs ρ0 F0 w0 s' a w := by
  simp only [AM.tidy, Option.bind_eq_some_iff, Option.map_eq_some_iff] at ht
  obtain ⟨fr', hfr, H', hH, rfl⟩ := ht
  obtain ⟨ρ, F, hE, hS, hF, hD⟩ := h.ex
  obtain ⟨e1, e2, e3, e4, e5, e6⟩ := sel_core (Hs := Hs) hE hS h.ok hd0 (reach_pre _ _ _ _) (reach_nodup _ _ _ _ List.nodup_range) hH
  refine ⟨e3, e4, fun hd => e5 hcl rfl (h.same hd), h.df, _, F, e1, e2, ?_, fun hd b L r hr hb => hD hd b L r (e6 b L r hr hb) hb⟩
  obtain ⟨r1, r2⟩ := renL_get hfr
  refine ⟨by rw [r1]; simp only [maskF, List.length_mapIdx]; exact hF.len, fun t => ?_⟩
  by_cases hlt : t < fr'.length
  · obtain ⟨v0, hv0, hv⟩ := r2 t fr'[t] (List.getElem?_eq_getElem hlt)
    have : fr'.getD t .undef = fr'[t] := by simp [List.getD, hlt]
    rw [this]
    refine Rel.ren place_rho (v := v0) ?_ _ hv
    have h0 : (maskF live s.fr).getD t .undef = v0 := by simp [List.getD, hv0]
    rcases maskF_get (live := live) (fr := s.fr) t with hm | hm
    · rw [← h0, hm]; exact hF.rel t
    · rw [← h0, hm]; exact .undef _
  · have : fr'.getD t .undef = .undef := by simp [List.getD, List.getElem?_eq_none (Nat.le_of_not_lt hlt)]
    rw [this]
    exact .undef _

def Ex.out : Ex → Exit
  | .normal => .normal
  | .exit id => .exit id
  | .ret => .ret
theorem iter_sound (hcl : HCl Hs Hs.length) (hd0 : ∀ b L r, ρ0 b L = some r → b < Hs.length) {live : List Nat} {c : Code} {f : St → Option (Ex × St)} {e : Ex} (hf : ∀ {s a w r} {Q : Exit → Act → World → Prop}, f s = some r → Inv Hs ρ0 F0 w0 s a w → (∀ a' w', Inv Hs ρ0 F0 w0 r.2 a' w' → Q r.1.out a' w') → c.wp P Q a w)
    (hQ : ∀ a' w', Inv Hs ρ0 F0 w0 s' a' w' → Q e.out a' w') : ∀ (k : Nat) (s : St) (a : Act) (w : World), iter (tidy live Hs.length) f k s = some (e, s') → Inv Hs ρ0 F0 w0 s a w → Code.rounds P c Q k a w := by
  intro k
  induction k with
  | zero => intro s a w h; simp [iter] at h
  | succ k ih =>
    intro s a w h hI
    simp only [iter, Option.bind_eq_some_iff] at h
    obtain ⟨s1, hs1, ⟨e1, s2⟩, hs2, h⟩ := h
    rw [rounds_succ]
    refine hf hs2 (hI.tidy hcl hd0 hs1) fun a' w' hI' => ?_
    cases e1 with
    | normal => exact ih s2 a' w' h hI'
    | exit id =>
      simp only [Option.some.injEq, Prod.mk.injEq] at h
      obtain ⟨rfl, rfl⟩ := h
      exact hQ a' w' hI'
    | ret =>
      simp only [Option.some.injEq, Prod.mk.injEq] at h
      obtain ⟨rfl, rfl⟩ := h
      exact hQ a' w' hI'
theorem iter_not_normal {pre : St → Option St} {f : St → Option (Ex × St)} {e : Ex} : ∀ {k : Nat} {s : St}, iter pre f k s = some (e, s') → e ≠ .normal
  | 0, s, h => by simp [iter] at h
  | k + 1, s, h => by
    simp only [iter, Option.bind_eq_some_iff] at h
    obtain ⟨s1, hs1, ⟨e1, s2⟩, hs2, h⟩ := h
    cases e1 with
    | normal => exact iter_not_normal h
    | exit id => simp only [Option.some.injEq, Prod.mk.injEq] at h; rw [← h.1]; simp
    | ret => simp only [Option.some.injEq, Prod.mk.injEq] at h; rw [← h.1]; simp

mutual
theorem V.eqb_eq : ∀ {a b : V}, a.eqb b = true → a = b := by
  intro a b h
  cases a <;> cases b <;> simp only [V.eqb, Bool.and_eq_true, decide_eq_true_eq, Bool.false_eq_true] at h <;> first
    | rfl
    | (subst h; rfl)
    | (obtain ⟨⟨⟨⟨rfl, rfl⟩, rfl⟩, rfl⟩, rfl⟩ := h; rfl)
    | (obtain ⟨⟨⟨rfl, rfl⟩, rfl⟩, rfl⟩ := h; rfl)
    | (obtain ⟨h1, h2⟩ := h; first
        | rw [h1, eqbLL_eq h2]
        | rw [eqbL_eq h1, h2]
        | rw [h1, eqbL_eq h2]
        | rw [h1, h2])
    | rw [eqbL_eq h]
theorem eqbL_eq : ∀ {a b : List V}, eqbL a b = true → a = b
  | [], [], _ => rfl
  | a :: as, b :: bs, h => by
    simp only [eqbL, Bool.and_eq_true] at h
    rw [V.eqb_eq h.1, eqbL_eq h.2]
  | [], _ :: _, h => by simp [eqbL] at h
  | _ :: _, [], h => by simp [eqbL] at h
theorem eqbLL_eq : ∀ {a b : List (List V)}, eqbLL a b = true → a = b
  | [], [], _ => rfl
  | a :: as, b :: bs, h => by
    simp only [eqbLL, Bool.and_eq_true] at h
    rw [eqbL_eq h.1, eqbLL_eq h.2]
  | [], _ :: _, h => by simp [eqbLL] at h
  | _ :: _, [], h => by simp [eqbLL] at h
end
theorem eqbH_eq : ∀ {a b : Heap}, eqbH a b = true → a = b
  | [], [], _ => rfl
  | a :: as, b :: bs, h => by
    simp only [eqbH, Bool.and_eq_true] at h
    have h1 := h.1
    cases a; cases b
    simp only [Blk.eqb, Bool.and_eq_true, decide_eq_true_eq] at h1
    obtain ⟨⟨⟨⟨rfl, h2⟩, rfl⟩, rfl⟩, rfl⟩ := h1
    rw [eqbLL_eq h2, eqbH_eq h.2]
  | [], _ :: _, h => by simp [eqbH] at h
  | _ :: _, [], h => by simp [eqbH] at h
theorem eqSt_eq {a b : St} (h : eqSt a b = true) : a = b := by
  cases a; cases b
  simp only [eqSt, Bool.and_eq_true, decide_eq_true_eq] at h
  obtain ⟨⟨h1, h2⟩, rfl⟩ := h
  rw [eqbL_eq h1, eqbH_eq h2]
theorem agree_all {l : List (Option St)} {s : St} (h : agree l = some s) : ∀ x ∈ l, x = some s := by
  cases l with
  | nil => simp [agree] at h
  | cons x xs =>
    simp only [agree, Option.bind_eq_some_iff] at h
    obtain ⟨s', rfl, h⟩ := h
    split at h
    · rename_i ha
      injection h with h
      subst h
      intro y hy
      rcases List.mem_cons.1 hy with rfl | hy
      · rfl
      · have := List.all_eq_true.1 ha y hy
        cases y with
        | none => simp at this
        | some t => rw [eqSt_eq this]
    · cases h
theorem execC_sound (hcall : CallOk P call) (hm : P.follows .mixedOrders = true) (hcl : HCl Hs Hs.length) (hd0 : ∀ b L r, ρ0 b L = some r → b < Hs.length) {hint : List (Nat × List Nat)} {k : Nat} (c : Code) : ∀ {c' : C} {s : St} {a : Act} {w : World} {r : Ex × St} {Q : Exit → Act → World → Prop},
    compC P hint c = some c' → execC call pure Hs.length k c' s = some r → Inv Hs ρ0 F0 w0 s a w → (∀ a' w', Inv Hs ρ0 F0 w0 r.2 a' w' → Q r.1.out a' w') → c.wp P Q a w := by
  induction c with
  | skip =>
    intro c' s a w r Q hc hx hI hQ
    simp [compC] at hc; subst hc
    simp [execC] at hx; subst hx
    exact wp_skip (hQ a w hI)
  | exit id =>
    intro c' s a w r Q hc hx hI hQ
    simp [compC] at hc; subst hc
    simp [execC] at hx; subst hx
    exact wp_exit (hQ a w hI)
  | ret =>
    intro c' s a w r Q hc hx hI hQ
    simp [compC] at hc; subst hc
    simp [execC] at hx; subst hx
    exact wp_ret (hQ a w hI)
  | region id ops draw =>
    intro c' s a w r Q hc hx hI hQ
    simp only [compC, Option.bind_eq_some_iff] at hc
    obtain ⟨l, hl, hc⟩ := hc
    cases draw with
    | false =>
      simp at hc; subst hc
      simp only [execC, Option.map_eq_some_iff] at hx
      obtain ⟨s1, hx, rfl⟩ := hx
      exact reg_sound hcall hI hl hx hQ
    | true =>
      simp only [if_true] at hc
      split at hc
      · rename_i hd
        injection hc with hc; subst hc
        simp only [execC, Option.bind_eq_some_iff] at hx
        obtain ⟨⟨s1, wr⟩, h1, hx⟩ := hx
        split at hx
        · rename_i hb
          injection hx with hx; subst hx
          exact drw_sound hcall hm hI hl hd h1 hb hQ
        · cases hx
      · rename_i hd
        simp only [Option.map_eq_some_iff] at hc
        obtain ⟨alts, ha, rfl⟩ := hc
        simp only [execC, Option.map_eq_some_iff] at hx
        obtain ⟨s', hx, rfl⟩ := hx
        have hal := agree_all hx
        have one : ∀ x ∈ alts, ∃ s1 log, execOpsW call pure 0 x.1 s = some (s1, log) ∧ barrier x.1 x.2 log = true ∧ AM.tidy (List.range s1.fr.length) Hs.length s1 = some s' := by
          intro x hxm
          have := hal _ (List.mem_map.2 ⟨x, hxm, rfl⟩)
          simp only [execX, Option.bind_eq_some_iff] at this
          obtain ⟨⟨s1, log⟩, h1, h2⟩ := this
          split at h2
          · rename_i hb
            exact ⟨s1, log, h1, hb, h2⟩
          · cases h2
        refine drx_sound (pure := pure) hcall hm hI hl ha (fun x hxm => ?_) (fun x hxm s1 log h1 a' w' hI' => ?_)
        · obtain ⟨s1, log, h1, h2, _⟩ := one x hxm
          exact ⟨s1, log, h1, h2⟩
        · obtain ⟨s2, log2, h2, _, h3⟩ := one x hxm
          rw [h1] at h2
          injection h2 with h2
          injection h2 with h2 _
          subst h2
          exact hQ a' w' (hI'.tidy hcl hd0 h3)
  | seq x y ihx ihy =>
    intro c' s a w r Q hc hx hI hQ
    simp only [compC, Option.bind_eq_some_iff, Option.map_eq_some_iff] at hc
    obtain ⟨x', hx', y', hy', rfl⟩ := hc
    simp only [execC, Option.bind_eq_some_iff] at hx
    obtain ⟨⟨e1, s1⟩, h1, h2⟩ := hx
    refine wp_seq_k fun K hK => ihx hx' h1 hI fun a' w' hI' => ?_
    cases e1 with
    | normal => exact hK _ _ (ihy hy' h2 hI' hQ)
    | exit id => simp only [Option.some.injEq] at h2; subst h2; exact hQ a' w' hI'
    | ret => simp only [Option.some.injEq] at h2; subst h2; exact hQ a' w' hI'
  | cond t x y ihx ihy =>
    intro c' s a w r Q hc hx hI hQ
    simp only [compC, Option.bind_eq_some_iff, Option.map_eq_some_iff] at hc
    obtain ⟨t', ht', x', hx', y', hy', rfl⟩ := hc
    obtain ⟨ρ, F, hE, hS, hF, hD⟩ := hI.ex
    have hr := ev_rel hF ht'
    simp only [execC] at hx
    split at hx
    · rename_i b hb
      rw [hb] at hr
      refine wp_cond hr.bool_inv ?_
      cases b
      · exact ihy hy' hx hI hQ
      · exact ihx hx' hx hI hQ
    · cases hx
  | block id x ih =>
    intro c' s a w r Q hc hx hI hQ
    simp only [compC, Option.map_eq_some_iff] at hc
    obtain ⟨x', hx', rfl⟩ := hc
    simp only [execC, Option.map_eq_some_iff] at hx
    obtain ⟨⟨e1, s1⟩, h1, rfl⟩ := hx
    refine wp_block (ih hx' h1 hI fun a' w' hI' => ?_)
    have := hQ a' w' hI'
    cases e1 with
    | normal => exact this
    | ret => exact this
    | exit i =>
      simp only [Ex.out, Exit.inBlock] at this ⊢
      by_cases hi : i = id
      · subst hi; simpa using this
      · rw [if_neg hi]
        rw [if_neg (by simpa using hi)] at this
        exact this
  | loop x ih =>
    intro c' s a w r Q hc hx hI hQ
    simp only [compC, Option.map_eq_some_iff] at hc
    obtain ⟨x', hx', rfl⟩ := hc
    simp only [execC] at hx
    exact wp_loop_rounds k (iter_sound hcl hd0 (e := r.1) (s' := r.2) (fun {s a w r Q} h hI hQ => ih hx' h hI hQ) hQ k s a w hx hI)
  | _ => intro c' s a w r Q hc; simp [compC] at hc

/-! ### Results -/
def resF (tm : Array Value) : ResultVar → Sem Value
  | .tmp t => Pure.pure (tm.getD t Go.undef)
  | .cell x t => do loadVar t (← asAddr (tm.getD x Go.undef))
theorem resF_tmp {tm : Array Value} {t : Nat} : (resF tm (.tmp t)).run P w = .ok (tm.getD t Go.undef) w := rfl
theorem resF_cell {tm : Array Value} {x : Nat} {t : TypeId} {ad : Addr} {u : Value} (h : tm.getD x Go.undef = .pointer (some ad)) (h2 : (loadVar t ad).run P w = .ok u w) : (resF tm (.cell x t)).run P w = .ok u w := by
  simp only [resF, Sem.run_bind, h, asAddr, Sem.run_pure, Result.andThen_ok, h2]
theorem res_sound (hok : HOk H) (hS : Sim ρ F H w) (hF : FrOk ρ F fr a.tmps) : ∀ {rs : List ResultVar} {rv : List Rv} {vs : List V}, compRvs P rs = some rv → resV fr H rv = some vs →
    ∃ us, RelL ρ F vs us ∧ (rs.mapM (m := Sem) (resF a.tmps)).run P w = .ok us w
  | [], rv, vs, hc, hv => by
    simp [compRvs] at hc; subst hc
    simp [resV] at hv; subst hv
    exact ⟨[], .nil, by simp⟩
  | r :: rs, rv, vs, hc, hv => by
    simp only [compRvs, Option.bind_eq_some_iff, Option.map_eq_some_iff] at hc
    obtain ⟨x, hx, rv', hrv, rfl⟩ := hc
    cases r with
    | tmp t =>
      simp [compRv] at hx; subst hx
      simp only [resV, Option.map_eq_some_iff] at hv
      obtain ⟨vs', hv, rfl⟩ := hv
      obtain ⟨us, h1, h2⟩ := res_sound hok hS hF hrv hv
      exact ⟨_, .cons (hF.rel t) h1, by simp only [List.mapM_cons, Sem.run_bind, resF_tmp, Result.andThen_ok, h2, Sem.run_pure]⟩
    | cell x t =>
      simp only [compRv, Option.map_eq_some_iff] at hx
      obtain ⟨n, hn, rfl⟩ := hx
      simp only [resV, Option.bind_eq_some_iff, Option.map_eq_some_iff] at hv
      obtain ⟨v, hv0, vs', hv, rfl⟩ := hv
      obtain ⟨us, h1, h2⟩ := res_sound hok hS hF hrv hv
      obtain ⟨ad, u', e1, e2, e3⟩ := ld_sound hok hS hn (hF.rel x) hv0
      exact ⟨_, .cons e3 h1, by simp only [List.mapM_cons, Sem.run_bind, resF_cell e1 e2, Result.andThen_ok, h2, Sem.run_pure]⟩
theorem packV_rel {vs : List V} {us : List Value} (h : RelL ρ F vs us) : Rel ρ F (packV vs) (if h : us.toArray.size = 1 then us.toArray[0] else .tuple us.toArray) := by
  match vs, us, h with
  | [], [], h => exact .tup [] [] rfl (by simp)
  | [v], [u], h => exact h.head
  | v :: v2 :: vs, u :: u2 :: us, h => exact .tup _ _ h.1 h.2
  | [], u :: us, h => simp [RelL] at h
  | v :: vs, [], h => simp [RelL] at h
  | [v], u :: u2 :: us, h => simp [RelL] at h
  | v :: v2 :: vs, [u], h => simp [RelL] at h

theorem results_sound (hok : HOk H) (hS : Sim ρ F H w) (hF : FrOk ρ F fr a.tmps) {fn : Func} {rv : List Rv} {vs : List V} (hc : compRvs P fn.results.toList = some rv) (hv : resV fr H rv = some vs) :
    ∃ u, Rel ρ F (packV vs) u ∧ (results fn a.tmps).run P w = .ok u w := by
  obtain ⟨us, h1, h2⟩ := res_sound hok hS hF hc hv
  refine ⟨_, packV_rel h1, ?_⟩
  have h3 : (fn.results.mapM (resF a.tmps)).run P w = .ok us.toArray w := by
    rw [Array.mapM_eq_mapM_toList]
    simp only [Sem.run_map, h2, Result.andThen_ok]
  show ((fn.results.mapM (resF a.tmps)) >>= fun vs => (Pure.pure (if h : vs.size = 1 then vs[0] else .tuple vs) : Sem Value)).run P w = _
  simp only [Sem.run_bind, h3, Result.andThen_ok, Sem.run_pure]

/-- what a table of compiled functions must be -/
def TblOk (P : Program) (tbl : FuncId → Option Fn) : Prop := ∀ f fn, tbl f = some fn → ∃ g hint, P.funcs[f]? = some g ∧ compFn P hint g = some fn ∧ (g.name == "runtime.NumGoroutine") = false

theorem runFn_sound (hcall : CallOk P call) (hm : P.follows .mixedOrders = true) {f : FuncId} {g : Func} {hint : List (Nat × List Nat)} {fn : Fn} {k : Nat} {args : List V} {v : V} {d : Bool} (hg : P.funcs[f]? = some g) (hc : compFn P hint g = some fn) (hname : (g.name == "runtime.NumGoroutine") = false)
    (hx : runFn call pure k fn args Hs = some (v, H', d)) (hok : HOk Hs) (hcl : HCl Hs Hs.length) : CallRes P f Hs v H' d args := by
  simp only [compFn, Option.bind_eq_some_iff, Option.map_eq_some_iff] at hc
  obtain ⟨c, hb, c', hc', rs, hrs, rfl⟩ := hc
  simp only [runFn, Option.bind_eq_some_iff] at hx
  obtain ⟨⟨e, s⟩, hx, hfin⟩ := hx
  have hfin' : e.out = .normal ∨ e.out = .ret := by
    cases e with
    | normal => exact .inl rfl
    | ret => exact .inr rfl
    | exit id => cases hfin
  have hfin : finish Hs.length rs s = some (v, H', d) := by
    cases e with
    | normal => exact hfin
    | ret => exact hfin
    | exit id => cases hfin
  simp only [finish, Option.bind_eq_some_iff, Option.map_eq_some_iff] at hfin
  obtain ⟨vs, hvs, v', hv', H2, hH2, heq⟩ := hfin
  simp only [Prod.mk.injEq] at heq
  obtain ⟨rfl, rfl, rfl⟩ := heq
  have hinit : ∀ (ρ : Rho) (F : Fz) (w : World) (us : List Value), Sim ρ F Hs w → RelL ρ F args us → Inv Hs ρ F w ⟨args ++ List.replicate (g.ntmps - args.length) .undef, Hs, false⟩ { tmps := us.toArray ++ Array.replicate (g.ntmps - us.toArray.size) Go.undef, defers := [] } w := by
    intro ρ F w us hS hR
    refine ⟨hok, Nat.le_refl _, fun _ => by simp, rfl, ρ, F, .refl _ _ _, hS, ⟨by simp [hR.1], fun t => ?_⟩, fun _ b L r hr _ => hr⟩
    by_cases ht : t < args.length
    · obtain ⟨u, hu, hr⟩ := hR.get (List.getElem?_eq_getElem ht)
      have h1 : (args ++ List.replicate (g.ntmps - args.length) V.undef).getD t .undef = args[t] := by simp [List.getD, List.getElem?_append_left ht, ht]
      have ht' : t < us.length := by rw [← hR.1]; exact ht
      have h2 : (us.toArray ++ Array.replicate (g.ntmps - us.toArray.size) Go.undef).getD t Go.undef = u := by
        rw [Array.getD_eq_getD_getElem?, Array.getElem?_append_left (by simpa using ht')]
        simp [hu]
      rw [h1, h2]
      exact hr
    · have h1 : (args ++ List.replicate (g.ntmps - args.length) V.undef).getD t .undef = .undef := by
        rw [List.getD, List.getElem?_append_right (by omega), List.getElem?_replicate]
        split <;> rfl
      rw [h1]
      exact .undef _
  have hsel := fun (ρ0 ρ : Rho) (F0 F : Fz) (w0 w : World) (hE : Ext ρ0 F0 w0 ρ F w) (hS : Sim ρ F s.H w) (hok : HOk s.H) (hd0 : ∀ b L r, ρ0 b L = some r → b < Hs.length) => sel_core (Hs := Hs) (n := Hs.length) hE hS hok hd0 (reach_pre _ _ _ _) (reach_nodup _ _ _ _ List.nodup_range) hH2
  have main : ∀ (ρ : Rho) (F : Fz) (w : World) (us : List Value), Sim ρ F Hs w → RelL ρ F args us → Calls P f us.toArray w fun e w' => CallKept Hs H2 s.d ∧ ∃ u ρ' F', e = .returned u ∧ Ext ρ F w ρ' F' w' ∧ Sim ρ' F' H2 w' ∧ Rel ρ' F' v' u ∧ (s.d = false → ∀ b L r, ρ' b L = some r → b < Hs.length → ρ b L = some r) := by
    intro ρ F w us hS hR
    have hd0 : ∀ b L r, ρ b L = some r → b < Hs.length := fun b L r hr => (hS.img b L r hr).1
    refine calls_of_wp hg hb (execC_sound hcall hm hcl hd0 c hc' hx (hinit ρ F w us hS hR) fun a' w' hI => ?_)
    obtain ⟨ρ1, F1, hE1, hS1, hF1, hD1⟩ := hI.ex
    obtain ⟨u, hu, hrun⟩ := results_sound hI.ok hS1 hF1 hrs hvs
    obtain ⟨e1, e2, e3, e4, e5, e6⟩ := hsel _ _ _ _ _ _ hE1 hS1 hI.ok hd0
    have hgoal : bodyPost P g (fun e w' => CallKept Hs H2 s.d ∧ ∃ u ρ' F', e = .returned u ∧ Ext ρ F w ρ' F' w' ∧ Sim ρ' F' H2 w' ∧ Rel ρ' F' v' u ∧ (s.d = false → ∀ b L r, ρ' b L = some r → b < Hs.length → ρ b L = some r)) .ret a' w' :=
      ⟨hI.df, u, hrun, ⟨e3, e4, fun hd => e5 hcl rfl (hI.same hd)⟩, u, _, F1, rfl, e1, e2, hu.ren place_rho _ hv', fun hd b L r hr hb => hD1 hd b L r (e6 b L r hr hb) hb⟩
    rcases hfin' with h | h <;> simp only at h ⊢ <;> rw [h] <;> exact hgoal
  exact ⟨⟨g, hg, hname, by rw [hb]; rfl⟩, main⟩
theorem callF_sound [Ora] {tbl : FuncId → Option Fn} (ht : TblOk P tbl) (ho : CallOk P Ora.ora) (hm : P.follows .mixedOrders = true) : ∀ k, CallOk P (callF tbl pure k)
  | 0 => fun f args Hs v Hs' d hx => by simp [callF] at hx
  | k + 1 => fun f args Hs v Hs' d hx hok hcl => by
    simp only [callF] at hx
    split at hx
    · rename_i fn hfn
      obtain ⟨g, hint, hg, hc, hname⟩ := ht f fn hfn
      exact runFn_sound (callF_sound ht ho hm k) hm hg hc hname hx hok hcl
    · exact ho f args Hs v Hs' d hx hok hcl
theorem Sim.bare {F : Fz} {w : World} (h : ∀ g o x, F g o = some x → w.cell? ⟨g, o, .none⟩ = some x) : Sim Rho.none F [] w :=
  ⟨fun b L r hr => by simp [Rho.none] at hr, fun b k r hb => by simp at hb, fun b k r o x hb => by simp at hb, fun b k L r hb => by simp at hb, fun b1 L1 r1 b2 L2 r2 h => by simp [Rho.none] at h, h, fun b k r hb => by simp at hb⟩
/-- what the executor returns is what every run returns -/
theorem calls_callF [Ora] {tbl : FuncId → Option Fn} (ht : TblOk P tbl) (ho : CallOk P Ora.ora) (hm : P.follows .mixedOrders = true) {k : Nat} {f : FuncId} {args : List V} {v : V} {Hs' : Heap} {d : Bool} (hx : callF tbl pure k f args [] = some (v, Hs', d)) {us : List Value} (hF : ∀ g o x, F g o = some x → w.cell? ⟨g, o, .none⟩ = some x) (ha : RelL Rho.none F args us) :
    Calls P f us.toArray w fun e w' => ∃ u ρ' F', e = .returned u ∧ Ext Rho.none F w ρ' F' w' ∧ Sim ρ' F' Hs' w' ∧ Rel ρ' F' v u :=
  ((callF_sound ht ho hm k f args [] v Hs' d hx (fun _ h => by cases h) (fun _ h => by cases h)).run _ _ w us (.bare hF) ha).mono fun e w' ⟨_, u, ρ', F', h1, h2, h3, h4, _⟩ => ⟨u, ρ', F', h1, h2, h3, h4⟩
end
end Go.AM
