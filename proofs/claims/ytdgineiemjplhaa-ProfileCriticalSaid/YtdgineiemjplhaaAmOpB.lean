/- Every operation that the executor carries out, against the model's: the others, and all together. -/
import Derived.Test.YtdgineiemjplhaaAmOp
set_option linter.unusedVariables false
set_option linter.unusedSimpArgs false
namespace Go.AM
open Go Go.RowKit
section
variable {P : Program} {ρ : Rho} {F : Fz} {H : Heap} {w : World} {fr : List V} {a : Act} {call : CallT} {pure : FuncId → Bool} {o : Oper} {i : I} {v : V} {e : Eff}

theorem unOp_good (hok : HOk H) (hs : Sim ρ F H w) (hf : FrOk ρ F fr a.tmps) {op : UnOp} {t : TypeId} {x : Operand} (hop : o.op = .unOp op t x) (hc : compOp P (.unOp op t x) = some i) (hx : execI call pure fr H i = some (v, e)) : Good P o a w (Step ρ F H w v e) := by
  simp only [compOp] at hc
  split at hc
  all_goals first
    | (cases hc; done)
    | (simp only [Option.map_eq_some_iff] at hc
       obtain ⟨y, hy, rfl⟩ := hc
       have hr := ev_rel hf hy
       simp only [execI] at hx
       split at hx
       · rename_i k n h1 h2
         injection hx with hx; injection hx with e1 e2; subst e1 e2
         first
           | (cases h1; done)
           | (rw [h2] at hr
              have := hr.int_inv
              exact Good.value (u := .int k (k.wrap (0 - n))) (by simp [execOp, hop, Op.unary, Op.intArith, this]) (Step.pure hok hs (.t (.int _ _))))
       · rename_i b h1 h2
         injection hx with hx; injection hx with e1 e2; subst e1 e2
         first
           | (cases h1; done)
           | (rw [h2] at hr
              have := hr.bool_inv
              exact Good.value (u := .bool (!b)) (by simp [execOp, hop, Op.unary, this]) (Step.pure hok hs (.t (.bool _))))
       · cases hx)
theorem conv_good (hok : HOk H) (hs : Sim ρ F H w) (hf : FrOk ρ F fr a.tmps) {s d : TypeId} {x : Operand} (hop : o.op = .convert s d x) (hc : compOp P (.convert s d x) = some i) (hx : execI call pure fr H i = some (v, e)) : Good P o a w (Step ρ F H w v e) := by
  simp only [compOp] at hc
  split at hc
  · rename_i k1 k h1 h2
    simp only [Option.map_eq_some_iff] at hc
    obtain ⟨y, hy, rfl⟩ := hc
    have hr := ev_rel hf hy
    simp only [execI] at hx
    split at hx
    · rename_i k' n hn
      injection hx with hx; injection hx with e1 e2; subst e1 e2
      rw [hn] at hr
      have := hr.int_inv
      exact Good.value (u := .int k (k.wrap n)) (by simp [execOp, hop, convert, run_underlying h1, run_underlying h2, this, Conv.intToInt]) (Step.pure hok hs (.t (.int _ _)))
    · cases hx
  · cases hc
theorem mkfn_good (hok : HOk H) (hs : Sim ρ F H w) (hf : FrOk ρ F fr a.tmps) {fn : Go.Fn} {first caps : Array Operand} (hop : o.op = .makeFunc fn first caps) (hc : compOp P (.makeFunc fn first caps) = some i) (hx : execI call pure fr H i = some (v, e)) : Good P o a w (Step ρ F H w v e) := by
  cases fn with
  | func f =>
    simp only [compOp] at hc
    split at hc
    · rename_i hfi
      simp only [Option.map_eq_some_iff] at hc
      obtain ⟨ys, hys, rfl⟩ := hc
      have hr := evs_rel hf hys
      simp only [execI] at hx
      split at hx
      · injection hx with hx; injection hx with e1 e2; subst e1 e2
        have hfi' : first = #[] := by simpa using hfi
        refine Good.value (u := .func (.func f) #[] (caps.toList.map a.eval).toArray) (w' := w) ?_ (Step.pure hok hs (.fn f _ _ hr.1 hr.2))
        simp [execOp, hop, Instr.makeFunc, hfi']
        apply Array.toList_inj.1; simp
      · cases hx
    · cases hc
  | _ => simp [compOp] at hc
theorem mks_good (hok : HOk H) (hs : Sim ρ F H w) (hf : FrOk ρ F fr a.tmps) {t : TypeId} {l c : Operand} (hop : o.op = .makeSlice t l c) (hc : compOp P (.makeSlice t l c) = some i) (hx : execI call pure fr H i = some (v, e)) : Good P o a w (Step ρ F H w v e) := by
  simp only [compOp] at hc
  split at hc
  · rename_i el hu
    simp only [Option.bind_eq_some_iff] at hc
    obtain ⟨s, hs', b, hb, z, hz, l', hl', c', hc', hc⟩ := hc
    split at hc
    · cases hc
    · rename_i hcc
      injection hc with hc; subst hc
      obtain ⟨ti, zv, cv, hti, hzv, hcz, rfl⟩ := zeroOf_some hz
      obtain ⟨ti', hti', hsz⟩ := sizeP_some hs'
      rw [hti] at hti'
      injection hti' with hti'
      subst hti'
      have hbb : ti.bytes = b := by simpa [bytesP, hti] using hb
      simp only [Bool.or_eq_true, decide_eq_true_eq, bne_iff_ne, ne_eq, not_or, Decidable.not_not] at hcc
      obtain ⟨c1, c2⟩ := hcc
      subst c2
      have rl := ev_rel hf hl'
      have rc := ev_rel hf hc'
      simp only [execI] at hx
      split at hx
      · rename_i ln cn h1 h2
        split at hx
        · rename_i hcond
          simp only [Bool.and_eq_true, decide_eq_true_eq] at hcond
          obtain ⟨⟨d1, d2⟩, d3⟩ := hcond
          injection hx with hx; injection hx with e1 e2; subst e1 e2
          rw [h1] at rl
          rw [h2] at rc
          have q1 := rl.int_inv
          have q2 := rc.int_inv
          subst d2
          obtain ⟨w', h3, h4⟩ := mks_sound (P := P) hok hs hu hti hsz hzv hcz c1 d1 (by rw [hbb]; exact d3)
          exact Good.value (by simp [execOp, hop, q1, q2, h3]) h4
        · cases hx
      · cases hx
  · cases hc
theorem slice_good (hok : HOk H) (hs : Sim ρ F H w) (hf : FrOk ρ F fr a.tmps) {t : TypeId} {x : Operand} {lo hi mx : Option Operand} (hop : o.op = .slice t x lo hi mx) (hc : compOp P (.slice t x lo hi mx) = some i) (hx : execI call pure fr H i = some (v, e)) : Good P o a w (Step ρ F H w v e) := by
  simp only [compOp] at hc
  split at hc
  · rename_i hu
    simp only [Option.bind_eq_some_iff, Option.map_eq_some_iff] at hc
    obtain ⟨y, hy, l', hl', h', hh', rfl⟩ := hc
    simp only [execI, Option.map_eq_some_iff] at hx
    obtain ⟨v', hv, he⟩ := hx
    injection he with e1 e2; subst e1 e2
    obtain ⟨u, h1, h2⟩ := sliceS_run (w := w) hu (ev_rel hf hy) (evOpt_rel hf hl') (evOpt_rel hf hh') hv
    exact Good.value (by simp [execOp, hop, h1]) (Step.pure hok hs h2)
  · rename_i el hu
    simp only [Option.bind_eq_some_iff, Option.map_eq_some_iff] at hc
    obtain ⟨z, hz, y, hy, l', hl', h', hh', m', hm', rfl⟩ := hc
    simp only [execI, Option.map_eq_some_iff] at hx
    obtain ⟨v', hv, he⟩ := hx
    injection he with e1 e2; subst e1 e2
    obtain ⟨u, h1, h2⟩ := sliceV_run (w := w) hu hz (ev_rel hf hy) (evOpt_rel hf hl') (evOpt_rel hf hh') (evOpt_rel hf hm') hv
    exact Good.value (by simp [execOp, hop, h1]) (Step.pure hok hs h2)
  · cases hc
theorem fadr_good (hok : HOk H) (hs : Sim ρ F H w) (hf : FrOk ρ F fr a.tmps) {t : TypeId} {x : Operand} {f : Nat} (hop : o.op = .fieldAddr t x f) (hc : compOp P (.fieldAddr t x f) = some i) (hx : execI call pure fr H i = some (v, e)) : Good P o a w (Step ρ F H w v e) := by
  simp only [compOp] at hc
  split at hc
  · rename_i fs hu
    simp only [Option.bind_eq_some_iff] at hc
    obtain ⟨fd, hfd, s, hs', y, hy, hc⟩ := hc
    split at hc
    · cases hc
    · rename_i hs0
      injection hc with hc; subst hc
      have hr := ev_rel hf hy
      have key : ∃ v', further fd.offset (ev fr y) = some v' ∧ v = v' ∧ e = .new [] := by
        simp only [execI] at hx
        split at hx
        · rename_i b L i o he
          injection hx with hx; injection hx with e1 e2
          exact ⟨_, by rw [he]; rfl, e1.symm, e2.symm⟩
        · rename_i cs o he
          injection hx with hx; injection hx with e1 e2
          exact ⟨_, by rw [he]; rfl, e1.symm, e2.symm⟩
        · cases hx
      obtain ⟨v', k1, rfl, rfl⟩ := key
      obtain ⟨ad, h1, h2, h3⟩ := Rel.place hr k1
      exact Good.value (by simp only [execOp, hop, h1, Sem.run_bind, fieldAt_run hu hfd hs' hs0, Result.andThen_ok, Sem.run_pure]) (Step.pure hok hs h3)
  · cases hc
theorem fld_good (hok : HOk H) (hs : Sim ρ F H w) (hf : FrOk ρ F fr a.tmps) {t : TypeId} {x : Operand} {f : Nat} (hop : o.op = .field t x f) (hc : compOp P (.field t x f) = some i) (hx : execI call pure fr H i = some (v, e)) : Good P o a w (Step ρ F H w v e) := by
  simp only [compOp] at hc
  split at hc
  · rename_i fs hu
    simp only [Option.bind_eq_some_iff, Option.map_eq_some_iff] at hc
    obtain ⟨fd, hfd, n, hn, y, hy, rfl⟩ := hc
    have hr := ev_rel hf hy
    simp only [execI] at hx
    split at hx
    · rename_i cs he
      simp only [Option.map_eq_some_iff] at hx
      obtain ⟨v', hv, he'⟩ := hx
      injection he' with e1 e2; subst e1 e2
      rw [he] at hr
      obtain ⟨us, hus, g1, g2⟩ := hr.agg_inv
      obtain ⟨u, h1, h2⟩ := part_run (P := P) (w := w) hn g1 g2 hv
      exact Good.value (by simp [execOp, hop, hus, Instr.field, run_underlying hu, hfd, asAgg, h1]) (Step.pure hok hs h2)
    · cases hx
  · cases hc
theorem iadr_good (hok : HOk H) (hs : Sim ρ F H w) (hf : FrOk ρ F fr a.tmps) {t : TypeId} {x y : Operand} (hop : o.op = .indexAddr t x y) (hc : compOp P (.indexAddr t x y) = some i) (hx : execI call pure fr H i = some (v, e)) : Good P o a w (Step ρ F H w v e) := by
  simp only [compOp] at hc
  split at hc
  · rename_i el hu
    simp only [Option.bind_eq_some_iff] at hc
    obtain ⟨s, hs', x', hx', y', hy', hc⟩ := hc
    split at hc
    · cases hc
    · injection hc with hc; subst hc
      have rx := ev_rel hf hx'
      have ry := ev_rel hf hy'
      simp only [execI] at hx
      split at hx
      · rename_i k n hn
        rw [hn] at ry
        have q := ry.int_inv
        split at hx
        · cases hx
        · rename_i h0
          split at hx
          · rename_i z' b L oo m hl hm
            split at hx
            · rename_i hcc
              simp only [Bool.and_eq_true, decide_eq_true_eq] at hcc
              obtain ⟨rfl, hlt⟩ := hcc
              injection hx with hx; injection hx with e1 e2; subst e1 e2
              rw [hm] at rx
              obtain ⟨ad, cap, g1, g2⟩ := sl_at (i := n.toNat) rx (by omega)
              exact Good.value (by simp only [execOp, hop, g1, q, Sem.run_bind, indexAt_slice_run hu hs' h0 hlt, Result.andThen_ok, Sem.run_pure]) (Step.pure hok hs g2)
            · cases hx
          · rename_i z' es hl hm
            split at hx
            · rename_i hcc
              subst hcc
              simp only [Option.map_eq_some_iff] at hx
              obtain ⟨el', hel, he⟩ := hx
              injection he with e1 e2; subst e1 e2
              rw [hm] at rx
              obtain ⟨ad, cap, g1, g2⟩ := tsl_at rx hel
              have hlt := (List.getElem?_eq_some_iff.1 hel).1
              exact Good.value (by simp only [execOp, hop, g1, q, Sem.run_bind, indexAt_slice_run hu hs' h0 (show n < (es.length : Int) by omega), Result.andThen_ok, Sem.run_pure]) (Step.pure hok hs g2)
            · cases hx
          · rename_i hl _; cases hl
          · rename_i hl _; cases hl
          · cases hx
      · cases hx
  · rename_i m el hu
    simp only [Option.bind_eq_some_iff] at hc
    obtain ⟨s, hs', x', hx', y', hy', hc⟩ := hc
    split at hc
    · cases hc
    · injection hc with hc; subst hc
      have rx := ev_rel hf hx'
      have ry := ev_rel hf hy'
      simp only [execI] at hx
      split at hx
      · rename_i k n hn
        rw [hn] at ry
        have q := ry.int_inv
        split at hx
        · cases hx
        · rename_i h0
          have key : n < (m : Int) ∧ ∃ v', further (n.toNat * s) (ev fr x') = some v' ∧ v = v' ∧ e = .new [] := by
            split at hx
            · rename_i hl _; cases hl
            · rename_i hl _; cases hl
            · rename_i m' b L i o hl he
              injection hl with hl; subst hl
              split at hx
              · rename_i hlt
                injection hx with hx; injection hx with e1 e2
                exact ⟨hlt, _, by rw [he]; rfl, e1.symm, e2.symm⟩
              · cases hx
            · rename_i m' cs o hl he
              injection hl with hl; subst hl
              split at hx
              · rename_i hlt
                injection hx with hx; injection hx with e1 e2
                exact ⟨hlt, _, by rw [he]; rfl, e1.symm, e2.symm⟩
              · cases hx
            · cases hx
          obtain ⟨hlt, v', k1, rfl, rfl⟩ := key
          obtain ⟨ad, h1, h2, h3⟩ := Rel.place rx k1
          exact Good.value (by simp only [execOp, hop, h1, q, Sem.run_bind, indexAt_array_run hu hs' h0 hlt, Result.andThen_ok, Sem.run_pure]) (Step.pure hok hs h3)
      · cases hx
  · cases hc
theorem index_good (hok : HOk H) (hs : Sim ρ F H w) (hf : FrOk ρ F fr a.tmps) {t : TypeId} {x y : Operand} (hop : o.op = .index t x y) (hc : compOp P (.index t x y) = some i) (hx : execI call pure fr H i = some (v, e)) : Good P o a w (Step ρ F H w v e) := by
  simp only [compOp] at hc
  split at hc
  · rename_i hu
    simp only [Option.bind_eq_some_iff, Option.map_eq_some_iff] at hc
    obtain ⟨x', hx', y', hy', rfl⟩ := hc
    have rx := ev_rel hf hx'
    have ry := ev_rel hf hy'
    simp only [execI] at hx
    split at hx
    · rename_i s k n h1 h2
      rw [h1] at rx
      rw [h2] at ry
      split at hx
      · cases hx
      · rename_i h0
        simp only [Option.map_eq_some_iff] at hx
        obtain ⟨b, hb, he⟩ := hx
        injection he with e1 e2; subst e1 e2
        exact Good.value (by simp only [execOp, hop, rx.str_inv, ry.int_inv, Sem.run_bind, idxs_run hu h0 hb, Result.andThen_ok, Sem.run_pure]) (Step.pure hok hs (.t (.int _ _)))
    · cases hx
  · rename_i m el hu
    simp only [Option.bind_eq_some_iff, Option.map_eq_some_iff] at hc
    obtain ⟨s, hs', sh, hsh, x', hx', y', hy', rfl⟩ := hc
    have rx := ev_rel hf hx'
    have ry := ev_rel hf hy'
    simp only [execI] at hx
    split at hx
    · rename_i cs k n h1 h2
      rw [h1] at rx
      rw [h2] at ry
      split at hx
      · cases hx
      · rename_i h0
        simp only [Bool.or_eq_true, decide_eq_true_eq, not_or] at h0
        simp only [Option.map_eq_some_iff] at hx
        obtain ⟨v', hv, he⟩ := hx
        injection he with e1 e2; subst e1 e2
        obtain ⟨us, hus, g1, g2⟩ := rx.agg_inv
        obtain ⟨u, q1, q2⟩ := idxa_run (k := k) (w := w) hu hs' hsh h0.1 h0.2 g1 g2 hv
        exact Good.value (by simp only [execOp, hop, hus, ry.int_inv, Sem.run_bind, q1, Result.andThen_ok, Sem.run_pure]) (Step.pure hok hs q2)
    · cases hx
  · cases hc
theorem ext_good (hok : HOk H) (hs : Sim ρ F H w) (hf : FrOk ρ F fr a.tmps) {x : Operand} {n : Nat} (hop : o.op = .extract x n) (hc : compOp P (.extract x n) = some i) (hx : execI call pure fr H i = some (v, e)) : Good P o a w (Step ρ F H w v e) := by
  simp only [compOp, Option.map_eq_some_iff] at hc
  obtain ⟨y, hy, rfl⟩ := hc
  have hr := ev_rel hf hy
  simp only [execI] at hx
  split at hx
  · rename_i vs he
    simp only [Option.map_eq_some_iff] at hx
    obtain ⟨v', hv, he'⟩ := hx
    injection he' with e1 e2; subst e1 e2
    rw [he] at hr
    obtain ⟨us, hus, g1⟩ := hr.tup_inv
    obtain ⟨u, h1, h2⟩ := g1.get hv
    exact Good.value (by simp [execOp, hop, hus, Instr.extract, h1]) (Step.pure hok hs h2)
  · cases hx
theorem call_good (hcall : CallOk P call) (hok : HOk H) (hs : Sim ρ F H w) (hf : FrOk ρ F fr a.tmps) {c : Call} (hop : o.op = .call c) (hc : compOp P (.call c) = some i) (hx : execI call pure fr H i = some (v, e)) : Good P o a w (Step ρ F H w v e) := by
  obtain ⟨cal, cargs, cts⟩ := c
  simp only [compOp] at hc
  split at hc
  · rename_i _ f
    simp only [Option.bind_eq_some_iff, Option.map_eq_some_iff] at hc
    obtain ⟨f', hf', as, has, rfl⟩ := hc
    have hr := ev_rel hf hf'
    have ha := evs_rel hf has
    simp only [execI] at hx
    split at hx
    · rename_i fid caps he
      rw [he] at hr
      obtain ⟨us, hus, g1⟩ := hr.fn_inv
      obtain ⟨⟨fn, k1, k2, k3⟩, hC⟩ := callV_sound hcall hok hs (ha.append g1) hx
      refine Good.enter (f := fid) (args := (cargs.toList.map a.eval ++ us).toArray) ?_ hC
      have hen : (callFunc fid (cargs.map a.eval ++ us.toArray)).run P w = .ok (.enter fid (cargs.map a.eval ++ us.toArray)) w := by
        have h1 : fn.name ≠ "runtime.NumGoroutine" := by simpa using k2
        obtain ⟨c, hc⟩ := Option.isSome_iff_exists.1 k3
        simp [callFunc, k1, h1, hc]
      have e0 : (cargs.toList.map a.eval ++ us).toArray = cargs.map a.eval ++ us.toArray := by
        apply Array.toList_inj.1; simp
      rw [e0]
      simp [execOp, hop, resolve, Deferred.ofValue, hus, invoke, hen]
    · cases hx
  · rename_i _
    have one : ∀ {x : Operand}, cargs.toList = [x] → cargs = #[x] := fun h => by apply Array.toList_inj.1; simpa using h
    have hty : ∀ {d : TypeDesc}, (cts[0]?).bind P.underlying = some d → ∃ t, cts[0]? = some t ∧ P.underlying t = some d := fun h => by
      simpa only [Option.bind_eq_some_iff] using h
    split at hc
    · rename_i x hca hd
      simp only [Option.map_eq_some_iff] at hc
      obtain ⟨y, hy, rfl⟩ := hc
      obtain ⟨t, ht, hu⟩ := hty hd
      have hr := ev_rel hf hy
      have hca := one hca
      subst hca
      simp only [execI] at hx
      split at hx <;> first
        | (cases hx; done)
        | (rename_i s he
           simp only [if_true, Option.some.injEq, Prod.mk.injEq] at hx
           obtain ⟨rfl, rfl⟩ := hx
           rw [he] at hr
           exact Good.value (u := .int .i64 s.size) (by simp [execOp, hop, resolve, invoke, builtin, Builtin.len_, ht, run_underlying hu, hr.str_inv, goInt]) (Step.pure hok hs (.t (.int _ _))))
        | (simp at hx; done)
    · rename_i x el hca hd
      simp only [Option.map_eq_some_iff] at hc
      obtain ⟨y, hy, rfl⟩ := hc
      obtain ⟨t, ht, hu⟩ := hty hd
      have hr := ev_rel hf hy
      have hca := one hca
      subst hca
      have key : ∃ A n c, a.eval x = .slice A n c ∧ v = .int .i64 n ∧ e = .new [] := by
        simp only [execI] at hx
        split at hx
        · simp at hx
        · rename_i he
          simp only [Bool.false_eq_true, if_false, Option.some.injEq, Prod.mk.injEq] at hx
          rw [he] at hr
          generalize hq : a.eval x = q at hr
          cases hr with
          | t hr => cases hr; exact ⟨_, _, _, rfl, hx.1.symm, hx.2.symm⟩
        · rename_i z b L oo n he
          simp only [Bool.false_eq_true, if_false, Option.some.injEq, Prod.mk.injEq] at hx
          rw [he] at hr
          obtain ⟨r, _, _, _, _, _, _, h⟩ := hr.sl_inv
          exact ⟨_, _, _, h, hx.1.symm, hx.2.symm⟩
        · rename_i z es he
          simp only [Bool.false_eq_true, if_false, Option.some.injEq, Prod.mk.injEq] at hx
          rw [he] at hr
          have h3 := hr.tsl_inv
          generalize hq : a.eval x = q at h3
          cases h3 with
          | tsl _ _ A cap g o us h1 h2 h3 h4 h5 h6 => exact ⟨_, _, _, rfl, hx.1.symm, hx.2.symm⟩
        · cases hx
      obtain ⟨A, n, c, h1, rfl, rfl⟩ := key
      exact Good.value (u := .int .i64 n) (by simp [execOp, hop, resolve, invoke, builtin, Builtin.len_, ht, run_underlying hu, h1, goInt]) (Step.pure hok hs (.t (.int _ _)))
    · cases hc
  · rename_i _
    split at hc
    · rename_i x y t u hca hct
      split at hc
      · cases hc
      · rename_i htu
        have htu : t = u := Decidable.not_not.1 htu
        subst htu
        split at hc
        · rename_i el el2 hu hu2
          simp only [Option.bind_eq_some_iff] at hc
          obtain ⟨s, hs', b, hb, z, hz, x', hx', y', hy', hc⟩ := hc
          split at hc
          · cases hc
          · rename_i hcc
            injection hc with hc; subst hc
            obtain ⟨ti, zv, cv, hti, hzv, hcz, rfl⟩ := zeroOf_some hz
            obtain ⟨ti', hti', hsz⟩ := sizeP_some hs'
            rw [hti] at hti'
            injection hti' with hti'
            subst hti'
            have hbb : ti.bytes = b := by simpa [bytesP, hti] using hb
            simp only [Bool.or_eq_true, decide_eq_true_eq, bne_iff_ne, ne_eq, not_or, Decidable.not_not] at hcc
            obtain ⟨⟨c1, c2⟩, c3⟩ := hcc
            simp only [execI] at hx
            have hzs : zv.cells.size = s := by
              have := ((ofConst_cells hcz).2 F).1
              simp at this
              omega
            obtain ⟨u, w', h1, h2⟩ := app_sound (P := P) (ty := o.type) hok hs hu hti hsz hbb hzv hzs (ev_rel hf hx') (ev_rel hf hy') hx
            have hca : cargs = #[x, y] := by apply Array.toList_inj.1; simpa using hca
            have hct : cts = #[t, t] := by apply Array.toList_inj.1; simpa using hct
            subst hca hct
            exact Good.value (by simp [execOp, hop, resolve, invoke, builtin, h1]) h2
        · cases hc
    · cases hc
  all_goals first
    | (cases hc; done)
    | (simp only [Option.map_eq_some_iff] at hc
       obtain ⟨ys, hys, rfl⟩ := hc
       have hr := evs_rel hf hys
       simp only [execI] at hx
       split at hx
       · cases hx
       · rename_i v0 vs he
         simp only [Option.map_eq_some_iff] at hx
         obtain ⟨v', hv, he'⟩ := hx
         injection he' with e1 e2; subst e1 e2
         rw [he] at hr
         cases hcl : cargs.toList with
         | nil => rw [hcl] at hr; have := hr.1; simp at this
         | cons q qs =>
           rw [hcl] at hr
           simp only [List.map_cons] at hr
           obtain ⟨x, h1, h2⟩ := mmL_run (P := P) (w := w) hr.head hr.tail hv
           refine Good.value (u := x) (w' := w) ?_ (Step.pure hok hs h2)
           simp only [Bool.false_eq_true, if_false, if_true] at h1
           simp [execOp, hop, resolve, invoke, builtin, Builtin.min_, Builtin.max_, hcl, h1])

theorem scKey_some {t : TypeId} {kk : Option IntKind} (h : scKey P t = some kk) : P.underlying t = some (keyD kk) := by
  unfold scKey at h
  split at h
  · rename_i k hu; injection h with h; subst h; exact hu
  · rename_i hu; injection h with h; subst h; exact hu
  · cases h
theorem mkm_good (hok : HOk H) (hs : Sim ρ F H w) {t : TypeId} {r : Option Operand} (hop : o.op = .makeMap t r) (hc : compOp P (.makeMap t r) = some i) (hx : execI call pure fr H i = some (v, e)) : Good P o a w (Step ρ F H w v e) := by
  cases r with
  | some r => simp [compOp] at hc
  | none =>
    simp only [compOp] at hc
    split at hc
    · simp only [Option.bind_eq_some_iff, Option.map_eq_some_iff] at hc
      obtain ⟨n, hn, sh, hsh, rfl⟩ := hc
      simp only [execI, Option.some.injEq, Prod.mk.injEq] at hx
      obtain ⟨rfl, rfl⟩ := hx
      obtain ⟨w', h1, h2⟩ := mkm_sound (P := P) hok hs (t := t) (ag := sh.isSome) (n := n)
      exact Good.value (by simp only [execOp, hop, Option.map_none, Sem.run_bind, h1, Result.andThen_ok, Sem.run_pure]) h2
    · cases hc
theorem lku_good (hok : HOk H) (hs : Sim ρ F H w) (hf : FrOk ρ F fr a.tmps) {t : TypeId} {x k : Operand} {ok : Bool} (hop : o.op = .lookup t x k ok) (hc : compOp P (.lookup t x k ok) = some i) (hx : execI call pure fr H i = some (v, e)) : Good P o a w (Step ρ F H w v e) := by
  simp only [compOp] at hc
  split at hc
  · rename_i kt et hu
    simp only [Option.bind_eq_some_iff, Option.map_eq_some_iff] at hc
    obtain ⟨kk, hkk, sh, hsh, z, hz, x', hx', k', hk', rfl⟩ := hc
    simp only [execI] at hx
    split at hx
    · rename_i b hm
      simp only [Option.bind_eq_some_iff] at hx
      obtain ⟨h, hb, hx⟩ := hx
      split at hx
      · rename_i ag' e' es hes
        split at hx
        · rename_i hcc
          simp only [Option.map_eq_some_iff, Prod.mk.injEq] at hx
          obtain ⟨y, hy, rfl, rfl⟩ := hx
          obtain ⟨rfl, hki⟩ := hcc
          simp only [zeroVOf, Option.bind_eq_some_iff] at hz
          obtain ⟨ti, hti, zv, hzv, hcz⟩ := hz
          have rx := ev_rel hf hx'
          rw [hm] at rx
          obtain ⟨u, h1, h2⟩ := lku_sound (P := P) (et := et) hok hs rx hb hes (ev_rel hf hk') hki hu (scKey_some hkk) (zv := zv) (by simp [zeroValue, typeInfo, hti, hzv]) hcz hy
          exact Good.value (by simp only [execOp, hop, Sem.run_bind, h1, Result.andThen_ok, Sem.run_pure]) (Step.pure hok hs h2)
        · cases hx
      · cases hx
    · cases hx
  · cases hc
theorem mup_good (hok : HOk H) (hs : Sim ρ F H w) (hf : FrOk ρ F fr a.tmps) {t : TypeId} {m k x : Operand} (hop : o.op = .mapUpdate t m k x) (hc : compOp P (.mapUpdate t m k x) = some i) (hx : execI call pure fr H i = some (v, e)) : Good P o a w (Step ρ F H w v e) := by
  simp only [compOp] at hc
  split at hc
  · rename_i kt et hu
    simp only [Option.bind_eq_some_iff, Option.map_eq_some_iff] at hc
    obtain ⟨kk, hkk, n, hn, sh, hsh, m', hm', k', hk', x', hx', rfl⟩ := hc
    simp only [execI] at hx
    split at hx
    · rename_i b hm
      simp only [Option.bind_eq_some_iff] at hx
      obtain ⟨h, hb, hx⟩ := hx
      split at hx
      · rename_i ag' e' es hes
        simp only [Option.bind_eq_some_iff] at hx
        obtain ⟨cs, hcs, hx⟩ := hx
        split at hx
        · rename_i hcc
          obtain ⟨rfl, g1, g2, g3, g4⟩ := hcc
          simp only [Option.map_eq_some_iff, Prod.mk.injEq] at hx
          obtain ⟨es', hes', rfl, rfl⟩ := hx
          have rm := ev_rel hf hm'
          rw [hm] at rm
          obtain ⟨w', h1, h2⟩ := mup_sound (P := P) hok hs rm hb hes (ev_rel hf hk') g4 hu (scKey_some hkk) (ev_rel hf hx') hcs g1 g2 g3 hes'
          exact Good.skip (by simp only [execOp, hop, Sem.run_bind, h1, Result.andThen_ok, Sem.run_pure]) h2
        · cases hx
      · cases hx
    · cases hx
  · cases hc

/-- every operation -/
theorem execI_sound (hcall : CallOk P call) (hok : HOk H) (hs : Sim ρ F H w) (hf : FrOk ρ F fr a.tmps) (hc : compOp P o.op = some i) (hx : execI call pure fr H i = some (v, e)) : Good P o a w (Step ρ F H w v e) := by
  cases hop : o.op with
  | move x => rw [hop] at hc; exact mv_good hok hs hf (.inl hop) hc hx
  | assign x => rw [hop] at hc; exact mv_good hok hs hf (.inr hop) hc hx
  | pick c x y => rw [hop] at hc; exact pick_good hok hs hf hop hc hx
  | alloc t => rw [hop] at hc; exact alloc_good hok hs hop hc hx
  | box t x => rw [hop] at hc; exact box_good hok hs hf hop hc hx
  | build t ps => rw [hop] at hc; exact build_good hok hs hf hop hc hx
  | buildSlice t n ps => rw [hop] at hc; exact bsl_good hok hs hf hop hc hx
  | load t x => rw [hop] at hc; exact ld_good hok hs hf hop hc hx
  | store t x y => rw [hop] at hc; exact st_good hok hs hf hop hc hx
  | nilCheck x => rw [hop] at hc; exact nilck_good hok hs hf hop hc hx
  | binOp op t x y t' => rw [hop] at hc; exact binOp_good hok hs hf hop hc hx
  | unOp op t x => rw [hop] at hc; exact unOp_good hok hs hf hop hc hx
  | convert s d x => rw [hop] at hc; exact conv_good hok hs hf hop hc hx
  | makeFunc f x y => rw [hop] at hc; exact mkfn_good hok hs hf hop hc hx
  | makeSlice t x y => rw [hop] at hc; exact mks_good hok hs hf hop hc hx
  | slice t x lo hi mx => rw [hop] at hc; exact slice_good hok hs hf hop hc hx
  | fieldAddr t x n => rw [hop] at hc; exact fadr_good hok hs hf hop hc hx
  | field t x n => rw [hop] at hc; exact fld_good hok hs hf hop hc hx
  | indexAddr t x y => rw [hop] at hc; exact iadr_good hok hs hf hop hc hx
  | index t x y => rw [hop] at hc; exact index_good hok hs hf hop hc hx
  | extract x n => rw [hop] at hc; exact ext_good hok hs hf hop hc hx
  | makeMap t r => rw [hop] at hc; exact mkm_good hok hs hop hc hx
  | lookup t x k ok => rw [hop] at hc; exact lku_good hok hs hf hop hc hx
  | mapUpdate t m k x => rw [hop] at hc; exact mup_good hok hs hf hop hc hx
  | call c => rw [hop] at hc; exact call_good hcall hok hs hf hop hc hx
  | _ => rw [hop] at hc; simp [compOp] at hc
end
end Go.AM
