/- One operation of the executor against the model's: numbers, bools, strings; places; slices. -/
import Derived.Test.YtdgineiemjplhaaAmOpsB
set_option linter.unusedVariables false
set_option linter.unusedSimpArgs false
namespace Go.AM
open Go Go.RowKit
section
variable {P : Program} {ρ : Rho} {F : Fz} {H : Heap} {w : World} {fr : List V} {a : Act}

theorem toList_beq (a b : ByteArray) : (a.toList == b.toList) = decide (a = b) := by
  by_cases h : a = b
  · subst h; simp
  · rw [decide_eq_false h]
    rw [ByteArray.toList_eq, ByteArray.toList_eq]
    refine beq_eq_false_iff_ne.2 fun e => h ?_
    obtain ⟨⟨x⟩⟩ := a
    obtain ⟨⟨y⟩⟩ := b
    simp at e
    rw [e]
theorem intBin_run {op : BinOp} {t : TypeId} {k : IntKind} {x y : Int} {v : V} (h : intBin op k x y = some v) : ∃ u, (binOp op t (.int k x) (.int k y)).run P w = .ok u w ∧ RelT F v u := by
  cases op <;> simp only [intBin] at h <;> first
    | (cases h; done)
    | (injection h with h; subst h; exact ⟨_, by simp only [binOp, ne_eq, not_true_eq_false, if_false]; rfl, by constructor⟩)
    | (injection h with h; subst h; exact ⟨_, by simp [binOp, Op.intArith, Op.intBits, Op.intCmp]; rfl, by constructor⟩)
    | (split at h
       · cases h
       · injection h with h; subst h
         rename_i h0
         exact ⟨_, by simp [binOp, Op.intDiv, h0]; rfl, by constructor⟩)
theorem shiftBin_run {op : BinOp} {t : TypeId} {k k' : IntKind} {x y : Int} {v : V} (h : shiftBin op k x y = some v) : ∃ u, (binOp op t (.int k x) (.int k' y)).run P w = .ok u w ∧ RelT F v u := by
  unfold shiftBin at h
  split at h
  · cases h
  · rename_i h0
    cases op <;> simp at h <;> (subst h; exact ⟨_, by simp [binOp, Op.shift, h0]; rfl, by constructor⟩)
theorem strBin_run {op : BinOp} {t : TypeId} {x y : ByteArray} {v : V} (h : strBin op x y = some v) : ∃ u, (binOp op t (.string x) (.string y)).run P w = .ok u w ∧ RelT F v u := by
  cases op <;> simp only [strBin] at h <;> first
    | (cases h; done)
    | (injection h with h; subst h; exact ⟨_, by simp [binOp, Op.stringOp, toList_beq]; rfl, by constructor⟩)
    | (split at h
       · cases h
       · injection h with h; subst h
         rename_i h0
         exact ⟨_, by simp only [binOp, Op.stringOp]; rw [if_neg h0]; rfl, by constructor⟩)
theorem eqGuard_run {op : BinOp} {t : TypeId} {ux uy : Value} (hg : (match ux with | .nilIface | .agg _ => false | _ => true) = true) (xo yo : Operand) : (eqGuard op t xo yo ux uy).run P w = .ok () w := by
  cases op <;> cases ux <;> simp_all [eqGuard]
theorem binV_run {op : BinOp} {t : TypeId} {x y v : V} {ux uy : Value} (hx : Rel ρ F x ux) (hy : Rel ρ F y uy) (h : binV op x y = some v) :
    ∃ u, (binOp op t ux uy).run P w = .ok u w ∧ RelT F v u ∧ ∀ xo yo, (eqGuard op t xo yo ux uy).run P w = .ok () w := by
  cases x with
  | int k a =>
    cases y with
    | int k' b =>
      rw [hx.int_inv, hy.int_inv]
      simp only [binV] at h
      split at h
      · obtain ⟨u, h1, h2⟩ := shiftBin_run (P := P) (w := w) (t := t) (F := F) (k' := k') h
        exact ⟨u, h1, h2, eqGuard_run rfl⟩
      · split at h
        · rename_i e
          subst e
          obtain ⟨u, h1, h2⟩ := intBin_run (P := P) (w := w) (t := t) (F := F) h
          exact ⟨u, h1, h2, eqGuard_run rfl⟩
        · cases h
    | _ => simp [binV] at h
  | str a =>
    cases y with
    | str b =>
      rw [hx.str_inv, hy.str_inv]
      simp only [binV] at h
      obtain ⟨u, h1, h2⟩ := strBin_run (P := P) (w := w) (t := t) (F := F) h
      exact ⟨u, h1, h2, eqGuard_run rfl⟩
    | _ => simp [binV] at h
  | _ => simp [binV] at h
theorem binb_run {t : TypeId} (ht : P.underlying t = some .bool) (x y : Bool) :
    (binOp .eql t (.bool x) (.bool y)).run P w = .ok (.bool ((x == y) != false)) w ∧ (binOp .neq t (.bool x) (.bool y)).run P w = .ok (.bool ((x == y) != true)) w := by
  constructor <;> simp [binOp, Op.equal, Op.maxDepth, run_equalIn_bool w _ t x y ht]

theorem isnil_slice {x : V} {ux : Value} {b : Bool} (hx : Rel ρ F x ux) (h : isnilV false x = some b) : ∃ A n c, ux = .slice A n c ∧ A.isNone = b := by
  cases x with
  | nils => cases hx with | t h' => cases h'; simp [isnilV] at h; subst h; exact ⟨_, _, _, rfl, rfl⟩
  | sl z b' L o n => obtain ⟨r, _, _, _, _, _, _, rfl⟩ := hx.sl_inv; simp [isnilV] at h; subst h; exact ⟨_, _, _, rfl, rfl⟩
  | tsl z es =>
    simp [isnilV] at h
    subst h
    cases hx.tsl_inv with
    | tsl _ _ A cap g o u h1 h2 h3 h4 h5 h6 =>
      refine ⟨_, _, _, rfl, ?_⟩
      obtain ⟨x, hx⟩ := Option.isSome_iff_exists.1 h3.1
      subst hx
      rfl
  | _ => simp [isnilV] at h
theorem isnil_ptr {x : V} {ux : Value} {b : Bool} (hx : Rel ρ F x ux) (h : isnilV true x = some b) : ∃ A, ux = .pointer A ∧ A.isNone = b := by
  cases x with
  | nilp => cases hx with | t h' => cases h'; simp [isnilV] at h; subst h; exact ⟨_, rfl, rfl⟩
  | ptr b' L i o => obtain ⟨r, _, rfl⟩ := hx.ptr_inv; simp [isnilV] at h; subst h; exact ⟨_, rfl, rfl⟩
  | tptr cs o => cases hx.tptr_inv; simp [isnilV] at h; subst h; exact ⟨_, rfl, rfl⟩
  | tsl z es => cases es <;> simp [isnilV] at h
  | _ => simp [isnilV] at h
theorem eqNil_slice (d : Nat) (t e : TypeId) (A : Option Addr) (n c : Nat) (h : P.underlying t = some (.slice e)) : (Op.equalIn (d + 1) t (.slice A n c) (.slice none 0 0)).run P w = .ok A.isNone w := by
  cases A <;> simp [Op.equalIn, run_underlying h]
theorem eqNil_ptr (d : Nat) (t e : TypeId) (A : Option Addr) (h : P.underlying t = some (.pointer e)) : (Op.equalIn (d + 1) t (.pointer A) (.pointer none)).run P w = .ok A.isNone w := by
  cases A <;> simp [Op.equalIn, run_underlying h]
theorem isnil_run_slice {A : Option Addr} {n c : Nat} {b : Bool} {t e : TypeId} (ht : P.underlying t = some (.slice e)) (h : A.isNone = b) : (binOp .eql t (.slice A n c) (.slice none 0 0)).run P w = .ok (.bool (b != false)) w ∧ (binOp .neq t (.slice A n c) (.slice none 0 0)).run P w = .ok (.bool (b != true)) w := by
  have h4 := eqNil_slice (P := P) (w := w) 9999 t e A n c ht
  rw [h] at h4
  constructor <;> simp only [binOp] <;> simp [Op.equal, Op.maxDepth, h4]
theorem isnil_run_ptr {A : Option Addr} {b : Bool} {t e : TypeId} (ht : P.underlying t = some (.pointer e)) (h : A.isNone = b) : (binOp .eql t (.pointer A) (.pointer none)).run P w = .ok (.bool (b != false)) w ∧ (binOp .neq t (.pointer A) (.pointer none)).run P w = .ok (.bool (b != true)) w := by
  have h4 := eqNil_ptr (P := P) (w := w) 9999 t e A ht
  rw [h] at h4
  constructor <;> simp only [binOp] <;> simp [Op.equal, Op.maxDepth, h4]

/-! ### Structs and arrays of numbers, bools, strings: equality -/
theorem eqV_run {x y : V} {ux uy : Value} {b : Bool} {t : TypeId} {d : TypeDesc} {k n : Nat} (ht : P.underlying t = some d) (hd : scOf d = some k) (hx : Rel ρ F x ux) (hy : Rel ρ F y uy) (h : eqV k x y = some b) : (Op.equalIn (n + 1) t ux uy).run P w = .ok b w := by
  cases d <;> simp only [scOf, Option.some.injEq, reduceCtorEq] at hd <;> subst hd
  · cases x <;> cases y <;> simp [eqV] at h
    rw [hx.bool_inv, hy.bool_inv, run_equalIn_bool' w n t _ _ ht]
    congr 1
  · cases x <;> cases y <;> simp [eqV] at h
    obtain ⟨rfl, h⟩ := h
    rw [hx.int_inv, hy.int_inv, run_equalIn_int w n t _ _ _ _ ht]
    congr 1
  · cases x <;> cases y <;> simp [eqV] at h
    rw [hx.str_inv, hy.str_inv, run_equalIn_string w n t _ _ ht, toList_beq]
    congr 1
theorem run_part_one {t : TypeId} {d : TypeDesc} {cs : Array Value} {o : Nat} {u : Value} (ht : P.underlying t = some d) (hd : isAggD d = false) (h : cs[o]? = some u) : (part t cs o).run P w = .ok u w := by
  cases d <;> simp_all [part, isAgg, isAggD, run_underlying ht]
theorem scOf_agg {d : TypeDesc} {k : Nat} (h : scOf d = some k) : isAggD d = false := by cases d <;> simp_all [scOf, isAggD]
theorem eqFs_run {n : Nat} {xs ys : Array Value} : ∀ {fs : List Field} {i : Nat} {ks : List Nat} {as bs : List V} {us vs : List Value} {b : Bool}, plainFs P i fs = some ks → RelL ρ F as us → RelL ρ F bs vs → (∀ (j : Nat) (u : Value), us[j]? = some u → xs[i + j]? = some u) → (∀ (j : Nat) (u : Value), vs[j]? = some u → ys[i + j]? = some u) →
    eqL ks as bs = some b → (Op.eqFields (n + 1) xs ys fs).run P w = .ok b w
  | [], i, ks, as, bs, us, vs, b, hp, ha, hb, hx, hy, h => by
    simp [plainFs] at hp
    subst hp
    cases as <;> cases bs <;> simp [eqL] at h
    subst h
    simp [Op.eqFields]
  | f :: fs, i, ks, as, bs, us, vs, b, hp, ha, hb, hx, hy, h => by
    simp only [plainFs] at hp
    split at hp
    · rename_i hc
      simp only [Bool.and_eq_true, decide_eq_true_eq, bne_iff_ne, ne_eq] at hc
      simp only [Option.bind_eq_some_iff, Option.map_eq_some_iff] at hp
      obtain ⟨d, hd, k, hk, ks', hks, rfl⟩ := hp
      cases as with
      | nil => cases bs <;> simp [eqL] at h
      | cons x as =>
        cases bs with
        | nil => simp [eqL] at h
        | cons y bs =>
          cases us with
          | nil => have := ha.1; simp at this
          | cons u us =>
            cases vs with
            | nil => have := hb.1; simp at this
            | cons v vs =>
              simp only [eqL, Option.bind_eq_some_iff, Option.map_eq_some_iff] at h
              obtain ⟨r, hr, s, hs, rfl⟩ := h
              have e1 := run_part_one (P := P) (w := w) hd (scOf_agg hk) (hx 0 u rfl)
              have e2 := run_part_one (P := P) (w := w) hd (scOf_agg hk) (hy 0 v rfl)
              rw [Nat.add_zero] at e1 e2
              have e3 := eqV_run (P := P) (w := w) (n := n) hd hk ha.head hb.head hr
              have ih := eqFs_run (n := n) hks ha.tail hb.tail (fun j u h => by have := hx (j + 1) u (by simpa using h); rwa [show i + (j + 1) = i + 1 + j by omega] at this) (fun j u h => by have := hy (j + 1) u (by simpa using h); rwa [show i + (j + 1) = i + 1 + j by omega] at this) hs
              simp only [Op.eqFields, hc.1, hc.2, ne_eq, not_false_eq_true, if_true, Sem.run_bind, e1, e2, e3, Result.andThen_ok, Sem.run_ite, Sem.run_pure]
              cases r <;> simp [ih]
    · cases hp
theorem eqArrLoop {n : Nat} {te : TypeId} {d : TypeDesc} {k : Nat} {xs ys : Array Value} (hd : P.underlying te = some d) (hk : scOf d = some k) : ∀ {m i : Nat} {as bs : List V} {us vs : List Value} {b : Bool}, RelL ρ F as us → RelL ρ F bs vs → (∀ (j : Nat) (u : Value), us[j]? = some u → xs[i + j]? = some u) → (∀ (j : Nat) (u : Value), vs[j]? = some u → ys[i + j]? = some u) →
    eqL (List.replicate m k) as bs = some b → ∀ r0 : Option Bool × Unit, r0 = (none, ()) →
    (forIn (List.range' i m 1) r0 fun (i : Nat) (__s : Option Bool × Unit) => (do
            let __do_lift ← part te xs (i * 1)
            let __do_lift_1 ← part te ys (i * 1)
            let __do_lift ← Op.equalIn (n + 1) te __do_lift __do_lift_1
            if (!__do_lift) = true then pure (ForInStep.done (some false, ())) else pure (ForInStep.yield (none, ())) : Sem (ForInStep (Option Bool × Unit)))).run P w = .ok (if b then (none, ()) else (some false, ())) w
  | 0, i, as, bs, us, vs, b, ha, hb, hx, hy, h, r0, hr0 => by
    cases as <;> cases bs <;> simp [eqL] at h
    subst h hr0
    simp
  | m + 1, i, as, bs, us, vs, b, ha, hb, hx, hy, h, r0, hr0 => by
    rw [List.replicate_succ] at h
    cases as with
    | nil => cases bs <;> simp [eqL] at h
    | cons x as =>
      cases bs with
      | nil => simp [eqL] at h
      | cons y bs =>
        cases us with
        | nil => have := ha.1; simp at this
        | cons u us =>
          cases vs with
          | nil => have := hb.1; simp at this
          | cons v vs =>
            simp only [eqL, Option.bind_eq_some_iff, Option.map_eq_some_iff] at h
            obtain ⟨r, hr, s, hs, rfl⟩ := h
            have e1 := run_part_one (P := P) (w := w) hd (scOf_agg hk) (hx 0 u rfl)
            have e2 := run_part_one (P := P) (w := w) hd (scOf_agg hk) (hy 0 v rfl)
            rw [Nat.add_zero] at e1 e2
            have e3 := eqV_run (P := P) (w := w) (n := n) hd hk ha.head hb.head hr
            have ih := eqArrLoop (n := n) hd hk ha.tail hb.tail (fun j u h => by have := hx (j + 1) u (by simpa using h); rwa [show i + (j + 1) = i + 1 + j by omega] at this) (fun j u h => by have := hy (j + 1) u (by simpa using h); rwa [show i + (j + 1) = i + 1 + j by omega] at this) hs (none, ()) rfl
            rw [List.range'_succ, List.forIn_cons]
            simp only [Sem.run_bind, Nat.mul_one, e1, e2, e3, Result.andThen_ok, Sem.run_ite, Sem.run_pure]
            cases r
            · simp
            · simp only [Nat.mul_one] at ih
              simp only [Bool.not_true, Bool.false_eq_true, if_false, Result.andThen_ok, Bool.true_and]
              exact ih
theorem eqArr_run {n : Nat} {t te : TypeId} {d : TypeDesc} {k : Nat} {m : Nat} {xs ys : Array Value} {as bs : List V} {b : Bool} (ht : P.underlying t = some (.array m te)) (hd : P.underlying te = some d) (hk : scOf d = some k) (hz : sizeP P te = some 1)
    (ha : RelL ρ F as xs.toList) (hb : RelL ρ F bs ys.toList) (h : eqL (List.replicate m k) as bs = some b) : (Op.equalIn (n + 2) t (.agg xs) (.agg ys)).run P w = .ok b w := by
  obtain ⟨ti, hti, hsz⟩ := sizeP_some hz
  have hz' : (sizeOf te).run P w = .ok 1 w := by simp [sizeOf, typeInfo, hti, hsz]
  have key := eqArrLoop (w := w) (n := n) hd hk ha hb (i := 0) (m := m) (fun j u h => by simpa using h) (fun j u h => by simpa using h) h (none, ()) rfl
  simp only [Op.equalIn, Sem.run_bind, run_underlying ht, Result.andThen_ok, hz']
  rw [Std.Legacy.Range.forIn_eq_forIn_range']
  have e : ([:m] : Std.Legacy.Range).size = m := by simp [Std.Legacy.Range.size]
  rw [e]
  simp only [Op.equalIn] at key
  rw [key]
  cases b <;> simp
theorem eqGuardScalar {P : Program} {d : TypeDesc} {k n : Nat} {t : TypeId} (hd : P.underlying t = some d) (hk : scOf d = some k) : P.eqGuardType (n + 1) t = false := by
  unfold Program.eqGuardType
  rw [hd]
  cases d <;> simp_all [scOf]
theorem eqGuardFs {n : Nat} : ∀ {fs : List Field} {i : Nat} {ks : List Nat}, plainFs P i fs = some ks → fs.any (fun f => f.name != "_" && P.eqGuardType (n + 1) f.type) = false
  | [], i, ks, h => rfl
  | f :: fs, i, ks, h => by
    simp only [plainFs] at h
    split at h
    · simp only [Option.bind_eq_some_iff, Option.map_eq_some_iff] at h
      obtain ⟨d, hd, k, hk, ks', hks, rfl⟩ := h
      simp only [List.any_cons, eqGuardScalar hd hk, eqGuardFs hks, Bool.and_false, Bool.or_false]
    · cases h
theorem eqa_run {t : TypeId} {ks : List Nat} {as bs : List V} {ux uy : Value} {b : Bool} {xo yo : Operand} (hp : plainAgg P t = some ks) (hx : Rel ρ F (.agg as) ux) (hy : Rel ρ F (.agg bs) uy) (h : eqL ks as bs = some b) :
    (binOp .eql t ux uy).run P w = .ok (.bool (b != false)) w ∧ (binOp .neq t ux uy).run P w = .ok (.bool (b != true)) w ∧ ∀ op, (eqGuard op t xo yo ux uy).run P w = .ok () w := by
  obtain ⟨us, rfl, ha, _⟩ := hx.agg_inv
  obtain ⟨vs, rfl, hb, _⟩ := hy.agg_inv
  have key : (Op.equalIn 10000 t (.agg us.toArray) (.agg vs.toArray)).run P w = .ok b w ∧ P.eqGuardType P.depth t = false := by
    unfold plainAgg at hp
    have hdep : ∃ n, P.depth = n + 2 := ⟨_, rfl⟩
    obtain ⟨n, hn⟩ := hdep
    split at hp
    · rename_i fs hu
      split at hp
      · cases hp
      · rename_i hst
        have hst : P.stoodInHeld t = false := by simpa using hst
        have hf : P.fieldsOf t = fs := by simp [Program.fieldsOf, hu]
        refine ⟨?_, ?_⟩
        · rw [run_equalIn_struct w 9999 t _ _ (by rw [hf]; exact hu) hst, hf]
          exact eqFs_run (n := 9998) hp ha hb (fun j u h => by simpa using h) (fun j u h => by simpa using h) h
        · rw [hn]
          unfold Program.eqGuardType
          rw [hu]
          have := eqGuardFs (P := P) (n := n) hp
          simp only [Array.any_toList] at this ⊢
          exact this
    · rename_i m te hu
      simp only [Option.bind_eq_some_iff] at hp
      obtain ⟨d, hd, k, hk, hp⟩ := hp
      split at hp
      · rename_i hz
        injection hp with hp
        subst hp
        refine ⟨eqArr_run (n := 9998) hu hd hk hz (by simpa using ha) (by simpa using hb) h, ?_⟩
        rw [hn]
        unfold Program.eqGuardType
        rw [hu]
        exact eqGuardScalar hd hk
      · cases hp
    · cases hp
  refine ⟨?_, ?_, fun op => run_eqGuard_agg w op t xo yo _ _ key.2⟩
  · rw [run_eql_struct, key.1]; cases b <;> rfl
  · rw [run_neq_struct, key.1]; cases b <;> rfl
end
end Go.AM
