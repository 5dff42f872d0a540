/- Every operation that the executor carries out, against the model's. -/
import Derived.Test.YtdgineiemjplhaaAmCallB
import Derived.Test.YtdgineiemjplhaaAmOpsM
set_option linter.unusedVariables false
set_option linter.unusedSimpArgs false
namespace Go.AM
open Go Go.RowKit
section
variable {P : Program} {ρ : Rho} {F : Fz} {H : Heap} {w : World} {fr : List V} {a : Act} {call : CallT} {pure : FuncId → Bool} {o : Oper} {i : I} {v : V} {e : Eff}

theorem mv_good (hok : HOk H) (hs : Sim ρ F H w) (hf : FrOk ρ F fr a.tmps) {x : Operand} (hop : o.op = .move x ∨ o.op = .assign x) (hc : (compOpd x).map I.mv = some i) (hx : execI call pure fr H i = some (v, e)) : Good P o a w (Step ρ F H w v e) := by
  simp only [Option.map_eq_some_iff] at hc
  obtain ⟨y, hy, rfl⟩ := hc
  simp only [execI, Option.some.injEq, Prod.mk.injEq] at hx
  obtain ⟨rfl, rfl⟩ := hx
  refine Good.value (u := a.eval x) (w' := w) ?_ (Step.pure hok hs (ev_rel hf hy))
  rcases hop with hop | hop <;> simp [execOp, hop]
theorem pick_good (hok : HOk H) (hs : Sim ρ F H w) (hf : FrOk ρ F fr a.tmps) {c x y : Operand} (hop : o.op = .pick c x y) (hc : compOp P (.pick c x y) = some i) (hx : execI call pure fr H i = some (v, e)) : Good P o a w (Step ρ F H w v e) := by
  simp only [compOp, Option.bind_eq_some_iff, Option.map_eq_some_iff] at hc
  obtain ⟨c', hc', x', hx', y', hy', rfl⟩ := hc
  simp only [execI] at hx
  split at hx
  · rename_i t ht
    injection hx with hx
    injection hx with h1 h2
    subst h1 h2
    have hb := ev_rel hf hc'
    rw [ht] at hb
    have hb := hb.bool_inv
    refine Good.value (u := if t then a.eval x else a.eval y) (w' := w) (by simp [execOp, hop, hb, asBool]) (Step.pure hok hs ?_)
    cases t
    · exact ev_rel hf hy'
    · exact ev_rel hf hx'
  · cases hx
theorem box_good (hok : HOk H) (hs : Sim ρ F H w) (hf : FrOk ρ F fr a.tmps) {t : TypeId} {x : Operand} (hop : o.op = .box t x) (hc : compOp P (.box t x) = some i) (hx : execI call pure fr H i = some (v, e)) : Good P o a w (Step ρ F H w v e) := by
  simp only [compOp, Option.map_eq_some_iff] at hc
  obtain ⟨y, hy, rfl⟩ := hc
  simp only [execI] at hx
  split at hx
  · rename_i hcl
    injection hx with hx
    injection hx with h1 h2
    subst h1 h2
    obtain ⟨w', h3, h4⟩ := box_sound (P := P) (t := t) hok hs (ev_rel hf hy) hcl
    exact Good.value (by simp [execOp, hop, h3]) h4
  · cases hx
theorem alloc_good (hok : HOk H) (hs : Sim ρ F H w) {t : TypeId} (hop : o.op = .alloc t) (hc : compOp P (.alloc t) = some i) (hx : execI call pure fr H i = some (v, e)) : Good P o a w (Step ρ F H w v e) := by
  simp only [compOp, Option.bind_eq_some_iff, Option.map_eq_some_iff] at hc
  obtain ⟨ti, hti, z, hz, c, hc, rfl⟩ := hc
  simp only [execI] at hx
  split at hx
  · rename_i hcl
    injection hx with hx
    injection hx with h1 h2
    subst h1 h2
    obtain ⟨w', h3, h4⟩ := box_sound (P := P) (t := t) hok hs (ofConst_rel (ρ := ρ) (F := F) hc) hcl
    refine Good.value ?_ h4
    simp [Instr.box, newVar, newRow] at h3
    simp [execOp, hop, Instr.alloc, zeroValue, typeInfo, hti, hz, newVar, newRow, h3]
  · cases hx
theorem build_good (hok : HOk H) (hs : Sim ρ F H w) (hf : FrOk ρ F fr a.tmps) {t : TypeId} {ps : Array (Nat × Operand)} (hop : o.op = .build t ps) (hc : compOp P (.build t ps) = some i) (hx : execI call pure fr H i = some (v, e)) : Good P o a w (Step ρ F H w v e) := by
  obtain ⟨rfl, u, h1, h2⟩ := build_sound (w := w) hf hc hx
  exact Good.value (by simp only [execOp, hop, Sem.run_bind, h1, Result.andThen_ok, Sem.run_pure]) (Step.pure hok hs h2)
theorem bsl_good (hok : HOk H) (hs : Sim ρ F H w) (hf : FrOk ρ F fr a.tmps) {t : TypeId} {len : Nat} {ps : Array (Nat × Operand)} (hop : o.op = .buildSlice t len ps) (hc : compOp P (.buildSlice t len ps) = some i) (hx : execI call pure fr H i = some (v, e)) : Good P o a w (Step ρ F H w v e) := by
  simp only [compOp] at hc
  split at hc
  · rename_i el hu
    simp only [Option.bind_eq_some_iff] at hc
    obtain ⟨s, hs', z, hz, hc⟩ := hc
    split at hc
    · cases hc
    · rename_i hcc
      simp only [Option.map_eq_some_iff] at hc
      obtain ⟨qs, hqs, rfl⟩ := hc
      obtain ⟨ti, zv, c, hti, hzv, hcz, rfl⟩ := zeroOf_some hz
      obtain ⟨ti', hti', hsz⟩ := sizeP_some hs'
      rw [hti] at hti'
      injection hti' with hti'
      subst hti'
      simp only [Bool.or_eq_true, decide_eq_true_eq, bne_iff_ne, ne_eq, not_or, Decidable.not_not] at hcc
      obtain ⟨⟨c1, c2⟩, c3⟩ := hcc
      subst c2
      simp only [execI, Option.bind_eq_some_iff] at hx
      obtain ⟨cs, hcs, hx⟩ := hx
      split at hx
      · rename_i hcl
        simp only [Option.map_eq_some_iff] at hx
        obtain ⟨r, hr, he⟩ := hx
        injection he with h1 h2
        subst h1 h2
        obtain ⟨w', h3, h4⟩ := bsl_sound hok hs hf hu hti hsz hzv hcz c1 c3 hqs hcs hcl hr
        exact Good.value (by simp only [execOp, hop, Sem.run_bind, h3, Result.andThen_ok, Sem.run_pure]) h4
      · cases hx
  · cases hc
theorem ld_good (hok : HOk H) (hs : Sim ρ F H w) (hf : FrOk ρ F fr a.tmps) {t : TypeId} {x : Operand} (hop : o.op = .load t x) (hc : compOp P (.load t x) = some i) (hx : execI call pure fr H i = some (v, e)) : Good P o a w (Step ρ F H w v e) := by
  simp only [compOp, Option.bind_eq_some_iff, Option.map_eq_some_iff] at hc
  obtain ⟨n, hn, y, hy, rfl⟩ := hc
  simp only [execI, Option.map_eq_some_iff] at hx
  obtain ⟨v', hv, he⟩ := hx
  injection he with h1 h2
  subst h1 h2
  obtain ⟨ad, u, h1, h2, h3⟩ := ld_sound (P := P) hok hs hn (ev_rel hf hy) hv
  exact Good.value (by simp [execOp, hop, Instr.loadAt, Instr.sureAddr, h1, h2]) (Step.pure hok hs h3)
theorem st_good (hok : HOk H) (hs : Sim ρ F H w) (hf : FrOk ρ F fr a.tmps) {t : TypeId} {x y : Operand} (hop : o.op = .store t x y) (hc : compOp P (.store t x y) = some i) (hx : execI call pure fr H i = some (v, e)) : Good P o a w (Step ρ F H w v e) := by
  simp only [compOp, Option.bind_eq_some_iff, Option.map_eq_some_iff] at hc
  obtain ⟨n, hn, x', hx', y', hy', rfl⟩ := hc
  simp only [execI, Option.map_eq_some_iff] at hx
  obtain ⟨e', he', he⟩ := hx
  injection he with h1 h2
  subst h1 h2
  obtain ⟨ad, w', h1, h2, h3⟩ := st_sound (P := P) hok hs hn (ev_rel hf hx') (ev_rel hf hy') he'
  exact Good.skip (by simp [execOp, hop, Instr.storeAt, Instr.sureAddr, h1, h2]) h3
theorem nilck_good (hok : HOk H) (hs : Sim ρ F H w) (hf : FrOk ρ F fr a.tmps) {x : Operand} (hop : o.op = .nilCheck x) (hc : compOp P (.nilCheck x) = some i) (hx : execI call pure fr H i = some (v, e)) : Good P o a w (Step ρ F H w v e) := by
  simp only [compOp, Option.map_eq_some_iff] at hc
  obtain ⟨y, hy, rfl⟩ := hc
  have hr := ev_rel hf hy
  simp only [execI] at hx
  split at hx
  · rename_i b L i o he
    injection hx with hx; injection hx with h1 h2; subst h1 h2
    rw [he] at hr
    obtain ⟨r, h1, h2⟩ := hr.ptr_inv
    exact Good.value (by first | (simp [execOp, hop, h2]; done) | (simp [execOp, hop, h2]; rfl)) (Step.pure hok hs (by rw [← h2]; exact hr))
  · rename_i cs o he
    injection hx with hx; injection hx with h1 h2; subst h1 h2
    rw [he] at hr
    have h3 := hr.tptr_inv
    generalize hu : a.eval x = u at hr h3
    cases h3 with
    | tptr _ _ g base us h1 h2 => exact Good.value (by first | (simp [execOp, hop, hu]; done) | (simp [execOp, hop, hu]; rfl)) (Step.pure hok hs hr)
  · rename_i f he
    injection hx with hx; injection hx with h1 h2; subst h1 h2
    rw [he] at hr
    obtain ⟨us, h1, h2⟩ := hr.fn_inv
    exact Good.value (by first | (simp [execOp, hop, h1]; done) | (simp [execOp, hop, h1]; rfl)) (Step.pure hok hs (by rw [← h1]; exact hr))
  · rename_i f caps _ he
    injection hx with hx; injection hx with h1 h2; subst h1 h2
    rw [he] at hr
    obtain ⟨us, h1, h2⟩ := hr.fn_inv
    exact Good.value (by first | (simp [execOp, hop, h1]; done) | (simp [execOp, hop, h1]; rfl)) (Step.pure hok hs (by rw [← h1]; exact hr))
  · cases hx
theorem binOp_good (hok : HOk H) (hs : Sim ρ F H w) (hf : FrOk ρ F fr a.tmps) {op : BinOp} {t t' : TypeId} {x y : Operand} (hop : o.op = .binOp op t x y t') (hc : compOp P (.binOp op t x y t') = some i) (hx : execI call pure fr H i = some (v, e)) : Good P o a w (Step ρ F H w v e) := by
  have done : ∀ {u : Value}, (eqGuard op t x y (a.eval x) (a.eval y)).run P w = .ok () w → (binOp op t (a.eval x) (a.eval y)).run P w = .ok u w → Rel ρ F v u → e = .new [] → Good P o a w (Step ρ F H w v e) := by
    intro u h1 h2 h3 h4
    subst h4
    exact Good.value (by simp [execOp, hop, h1, h2]) (Step.pure hok hs h3)
  simp only [compOp, Option.bind_eq_some_iff] at hc
  obtain ⟨x', hx', y', hy', hc⟩ := hc
  have rx := ev_rel hf hx'
  have ry := ev_rel hf hy'
  have bin : ∀ {i : I}, i = .bin op x' y' → execI call pure fr H i = some (v, e) → Good P o a w (Step ρ F H w v e) := by
    intro i hi hx
    subst hi
    simp only [execI, Option.map_eq_some_iff] at hx
    obtain ⟨v', hv, he⟩ := hx
    injection he with h1 h2
    subst h1
    obtain ⟨u, h3, h4, h5⟩ := binV_run (P := P) (w := w) (t := t) rx ry hv
    exact done (h5 x y) h3 (.t h4) h2.symm
  split at hc
  · exact bin (Option.some.inj hc).symm hx
  · exact bin (Option.some.inj hc).symm hx
  · rename_i hu
    split at hc <;> first
      | (injection hc with hc; subst hc
         simp only [execI] at hx
         split at hx
         · rename_i p q hp hq
           injection hx with hx; injection hx with h1 h2; subst h1
           rw [hp] at rx
           rw [hq] at ry
           have e1 := rx.bool_inv
           have e2 := ry.bool_inv
           refine done (by rw [e1]; exact eqGuard_run rfl x y) (by rw [e1, e2]; first | exact (binb_run hu p q).1 | exact (binb_run hu p q).2) (.t (.bool _)) h2.symm
         · cases hx)
      | cases hc
  · rename_i el hu
    have fin : ∀ (neg : Bool), execI call pure fr H (.isnil false neg x') = some (v, e) → ∃ A n c b, a.eval x = .slice A n c ∧ A.isNone = b ∧ v = .bool (b != neg) ∧ e = .new [] := by
      intro neg hx
      simp only [execI, Option.map_eq_some_iff] at hx
      obtain ⟨b, hb, he⟩ := hx
      injection he with h1 h2
      obtain ⟨A, n, c, g1, g2⟩ := isnil_slice rx hb
      exact ⟨A, n, c, b, g1, g2, h1.symm, h2.symm⟩
    split at hc
    · injection hc with hc; subst hc
      obtain ⟨A, n, c, b, g1, g2, rfl, g4⟩ := fin false hx
      have h5 := (isnil_run_slice (P := P) (w := w) (n := n) (c := c) hu g2).1
      refine done (by rw [g1]; exact eqGuard_run rfl x _) (u := .bool (b != false)) (by rw [g1]; exact h5) (.t (.bool _)) g4
    · injection hc with hc; subst hc
      obtain ⟨A, n, c, b, g1, g2, rfl, g4⟩ := fin true hx
      have h5 := (isnil_run_slice (P := P) (w := w) (n := n) (c := c) hu g2).2
      refine done (by rw [g1]; exact eqGuard_run rfl x _) (u := .bool (b != true)) (by rw [g1]; exact h5) (.t (.bool _)) g4
    · cases hc
  · rename_i el hu
    have fin : ∀ (neg : Bool), execI call pure fr H (.isnil true neg x') = some (v, e) → ∃ A b, a.eval x = .pointer A ∧ A.isNone = b ∧ v = .bool (b != neg) ∧ e = .new [] := by
      intro neg hx
      simp only [execI, Option.map_eq_some_iff] at hx
      obtain ⟨b, hb, he⟩ := hx
      injection he with h1 h2
      obtain ⟨A, g1, g2⟩ := isnil_ptr rx hb
      exact ⟨A, b, g1, g2, h1.symm, h2.symm⟩
    split at hc
    · injection hc with hc; subst hc
      obtain ⟨A, b, g1, g2, rfl, g4⟩ := fin false hx
      have h5 := (isnil_run_ptr (P := P) (w := w) hu g2).1
      refine done (by rw [g1]; exact eqGuard_run rfl x _) (u := .bool (b != false)) (by rw [g1]; exact h5) (.t (.bool _)) g4
    · injection hc with hc; subst hc
      obtain ⟨A, b, g1, g2, rfl, g4⟩ := fin true hx
      have h5 := (isnil_run_ptr (P := P) (w := w) hu g2).2
      refine done (by rw [g1]; exact eqGuard_run rfl x _) (u := .bool (b != true)) (by rw [g1]; exact h5) (.t (.bool _)) g4
    · cases hc
  all_goals first
    | (cases hc; done)
    | (simp only [Option.bind_eq_some_iff] at hc
       obtain ⟨ks, hks, hc⟩ := hc
       have fin : ∀ (neg : Bool), execI call pure fr H (.eqa ks neg x' y') = some (v, e) → ∃ as bs b, ev fr x' = .agg as ∧ ev fr y' = .agg bs ∧ eqL ks as bs = some b ∧ v = .bool (b != neg) ∧ e = .new [] := by
         intro neg hx
         simp only [execI] at hx
         split at hx
         · rename_i as bs ha hb
           simp only [Option.map_eq_some_iff] at hx
           obtain ⟨b, hb', he⟩ := hx
           injection he with h1 h2
           exact ⟨as, bs, b, ha, hb, hb', h1.symm, h2.symm⟩
         · cases hx
       split at hc
       · injection hc with hc; subst hc
         obtain ⟨as, bs, b, g1, g2, g3, rfl, g4⟩ := fin false hx
         rw [g1] at rx
         rw [g2] at ry
         obtain ⟨r1, r2, r3⟩ := eqa_run (w := w) (xo := x) (yo := y) hks rx ry g3
         exact done (r3 _) r1 (.t (.bool _)) g4
       · injection hc with hc; subst hc
         obtain ⟨as, bs, b, g1, g2, g3, rfl, g4⟩ := fin true hx
         rw [g1] at rx
         rw [g2] at ry
         obtain ⟨r1, r2, r3⟩ := eqa_run (w := w) (xo := x) (yo := y) hks rx ry g3
         exact done (r3 _) r2 (.t (.bool _)) g4
       · cases hc)
end
end Go.AM
