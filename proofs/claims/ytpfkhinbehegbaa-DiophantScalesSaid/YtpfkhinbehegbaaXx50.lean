-- Written by xprint.py and rd-xl.py for this claim.
import Derived.Test.YtpfkhinbehegbaaXx0
namespace Go.Proofs.Ytpfkhinbehegbaa.X
open Go.RowKit Go.Proofs.YtpfkhinbehegbaaW.PrintWords Go.Proofs.YtpfkhinbehegbaaW.PrintLast Go.Proofs.YtpfkhinbehegbaaW.PrintMore
attribute [local go_sem] max2_int min2_int max_two min_two max_three min_three max_four min_four
set_option linter.unusedVariables false
set_option linter.unusedSimpArgs false
theorem goesB_ {P : Program} {ops : Array Oper} {Q : Exit → Act → World → Prop} {rest : List Oper} {oi : Oper} {a : Act} {w : World} (N : Option Tmp) {f : FuncId} {fn : Func} {os_ : Array Operand} {ts : Array TypeId} {args : Array Value} {v : Value} (hf : P.funcs[f]? = some fn) (hname : (fn.name == "runtime.NumGoroutine") = false) (hb : fn.body.isSome = true)
    (hc : Calls P f args w fun e w' => e = .returned v ∧ Below w.heap.size w w') (hd : oi.dst = N) (hg : oi.guard = none) (hop : oi.op = .call { callee := .value (.func f), args := os_, argTypes := ts }) (hargs : os_.map a.eval = args)
    (h : ∀ w', Below w.heap.size w w' → wpList P ops Q rest (a.put N v) w') : wpList P ops Q (oi :: rest) a w :=
  goesL_ N hd hg hf hname hb args hop hargs (hc.mono fun _ w' ⟨he, hb'⟩ => ⟨v, he, h w' hb'⟩)
theorem sq_put4 {w : World} {g : Nat} {t : TypeId} {a0 a1 a2 a3 z0 z1 z2 z3 : Value} (h : w.heap[g]? = some (.cells #[z0, z1, z2, z3] t (0, 0))) : ((((w.setCell ⟨g, 0, none⟩ a0).setCell ⟨g, 1, none⟩ a1).setCell ⟨g, 2, none⟩ a2).setCell ⟨g, 3, none⟩ a3).heap[g]? = some (.cells #[a0, a1, a2, a3] t (0, 0)) := by
  have q := (blk_set (blk_set (blk_set (blk_set h 0 a0) 1 a1) 2 a2) 3 a3)
  simp only [List.setIfInBounds_toArray, List.set_cons_zero, List.set_cons_succ] at q
  exact q
theorem sq_put9 {w : World} {g : Nat} {t : TypeId} {a0 a1 a2 a3 a4 a5 a6 a7 a8 z0 z1 z2 z3 z4 z5 z6 z7 z8 : Value} (h : w.heap[g]? = some (.cells #[z0, z1, z2, z3, z4, z5, z6, z7, z8] t (0, 0))) : (((((((((w.setCell ⟨g, 0, none⟩ a0).setCell ⟨g, 1, none⟩ a1).setCell ⟨g, 2, none⟩ a2).setCell ⟨g, 3, none⟩ a3).setCell ⟨g, 4, none⟩ a4).setCell ⟨g, 5, none⟩ a5).setCell ⟨g, 6, none⟩ a6).setCell ⟨g, 7, none⟩ a7).setCell ⟨g, 8, none⟩ a8).heap[g]? = some (.cells #[a0, a1, a2, a3, a4, a5, a6, a7, a8] t (0, 0)) := by
  have q := (blk_set (blk_set (blk_set (blk_set (blk_set (blk_set (blk_set (blk_set (blk_set h 0 a0) 1 a1) 2 a2) 3 a3) 4 a4) 5 a5) 6 a6) 7 a7) 8 a8)
  simp only [List.setIfInBounds_toArray, List.set_cons_zero, List.set_cons_succ] at q
  exact q
end Go.Proofs.Ytpfkhinbehegbaa.X
