/- Running code over values that are not all known: equations for simp; what is still to be run stays folded. -/
import Derived.Test.YtdgineiemjplhaaAmFront
set_option linter.unusedVariables false
set_option linter.unusedSimpArgs false
namespace Go.AM
open Go

section
variable {call : CallT} {pure : FuncId → Bool} {n k : Nat}
/-! What comes next, held back until what comes before is known. -/
def kOps (call : CallT) (pure : FuncId → Bool) (os : List O) : Option (St × Bool) → Option St
  | none => none
  | some r => execOps call pure os r.1
def kOpsW (call : CallT) (pure : FuncId → Bool) (i : Nat) (d : Option Nat) (bs : List Nat) (os : List O) (s : St) : Option (V × Eff) → Option (St × List Lg)
  | none => none
  | some r => (execOpsW call pure (i + 1) os ⟨putV s.fr d r.1, r.2.heap s.H, s.d || r.2.wr⟩).map fun q => (q.1, lgE i bs r.2 ++ q.2)
def kW (x : Lg) : Option (St × List Lg) → Option (St × List Lg)
  | none => none
  | some q => some (q.1, x :: q.2)
def kReg : Option St → Option (Ex × St)
  | none => none
  | some s => some (.normal, s)
def kDrw (ops : List O) (anc : List Nat) : Option (St × List Lg) → Option (Ex × St)
  | none => none
  | some r => if barrierG ops anc r.2 r.2 then some (.normal, r.1) else none
def kSeq (call : CallT) (pure : FuncId → Bool) (n k : Nat) (b : C) : Option (Ex × St) → Option (Ex × St)
  | some (.normal, s) => execC call pure n k b s
  | r => r
def kCond (call : CallT) (pure : FuncId → Bool) (n k : Nat) (a b : C) (s : St) : V → Option (Ex × St)
  | .bool true => execC call pure n k a s
  | .bool false => execC call pure n k b s
  | _ => none
def kBlk (id : Nat) : Option (Ex × St) → Option (Ex × St)
  | none => none
  | some r => some (if r.1 = .exit id then .normal else r.1, r.2)
def kO (d : Option Nat) (s : St) : Option (V × Eff) → Option (St × Bool)
  | none => none
  | some r => some (⟨putV s.fr d r.1, r.2.heap s.H, s.d || r.2.wr⟩, r.2.wr)
def kG (H : Heap) : Option (V × Eff) → Option (V × Eff)
  | none => none
  | some r => if r.2.grows H then some r else none
def kWant (call : CallT) (pure : FuncId → Bool) (i : I) (fr : List V) (H : Heap) (b : Bool) : V → Option (V × Eff)
  | .bool c => if c = b then kG H (execI call pure fr H i) else some (.tup [], .new [])
  | .tup [] => some (.tup [], .new [])
  | _ => none
def kFin (n : Nat) (rs : List Rv) : Option (Ex × St) → Option (V × Heap × Bool)
  | none => none
  | some (.exit _, _) => none
  | some (_, s) => finish n rs s

theorem execOps_nil {s : St} : execOps call pure [] s = some s := rfl
theorem execOps_cons {o : O} {os : List O} {s : St} : execOps call pure (o :: os) s = kOps call pure os (execO call pure o s) := by
  rw [execOps]; cases execO call pure o s <;> rfl
theorem kOps_some {os : List O} {r : St × Bool} : kOps call pure os (some r) = execOps call pure os r.1 := rfl
theorem execOpsW_nil {i : Nat} {s : St} : execOpsW call pure i [] s = some (s, []) := rfl
theorem execOpsW_cons {i : Nat} {d : Option Nat} {g : Option (Nat × Bool)} {x : I} {os : List O} {s : St} : execOpsW call pure i (⟨d, g, x⟩ :: os) s = kOpsW call pure i d (x.rdB s.fr) os s (execV call pure ⟨d, g, x⟩ s.fr s.H) := by
  rw [execOpsW]; cases execV call pure ⟨d, g, x⟩ s.fr s.H <;> rfl
theorem kOpsW_new {i : Nat} {d : Option Nat} {os : List O} {fr : List V} {H : Heap} {b : Bool} {v : V} {l : List Blk} : kOpsW call pure i d [] os ⟨fr, H, b⟩ (some (v, .new l)) = execOpsW call pure (i + 1) os ⟨putV fr d v, H ++ l, b⟩ := by
  simp only [kOpsW, Eff.heap, Eff.wr, Bool.or_false, lgE, List.isEmpty_nil, if_true, List.nil_append]
  cases execOpsW call pure (i + 1) os ⟨putV fr d v, H ++ l, b⟩ <;> rfl
theorem kOpsW_look {i c : Nat} {cs : List Nat} {d : Option Nat} {os : List O} {fr : List V} {H : Heap} {b : Bool} {v : V} {l : List Blk} : kOpsW call pure i d (c :: cs) os ⟨fr, H, b⟩ (some (v, .new l)) = kW (i, false, c :: cs) (execOpsW call pure (i + 1) os ⟨putV fr d v, H ++ l, b⟩) := by
  simp only [kOpsW, Eff.heap, Eff.wr, Bool.or_false, lgE, List.isEmpty_cons, Bool.false_eq_true, if_false, List.singleton_append]
  cases execOpsW call pure (i + 1) os ⟨putV fr d v, H ++ l, b⟩ <;> rfl
theorem kOpsW_upd {i : Nat} {bs : List Nat} {d : Option Nat} {os : List O} {fr : List V} {H H' : Heap} {b : Bool} {v : V} {ids : List Nat} : kOpsW call pure i d bs os ⟨fr, H, b⟩ (some (v, .upd H' ids)) = kW (i, true, ids) (execOpsW call pure (i + 1) os ⟨putV fr d v, H', true⟩) := by
  simp only [kOpsW, Eff.heap, Eff.wr, Bool.or_true, lgE, List.singleton_append]
  cases execOpsW call pure (i + 1) os ⟨putV fr d v, H', true⟩ <;> rfl
theorem kW_some {x : Lg} {q : St × List Lg} : kW x (some q) = some (q.1, x :: q.2) := rfl
theorem kReg_some {s : St} : kReg (some s) = some (.normal, s) := rfl
theorem kDrw_some {ops : List O} {anc : List Nat} {s : St} {log : List Lg} : kDrw ops anc (some (s, log)) = if barrierG ops anc log log then some (.normal, s) else none := rfl
theorem barrierG_nil {ops : List O} {anc : List Nat} {log : List Lg} : barrierG ops anc log [] = true := rfl
theorem barrierG_look {ops : List O} {anc : List Nat} {log l : List Lg} {i : Nat} {bs : List Nat} : barrierG ops anc log ((i, false, bs) :: l) = barrierG ops anc log l := rfl
theorem barrierG_wr {ops : List O} {anc : List Nat} {log l : List Lg} {i : Nat} {bs : List Nat} : barrierG ops anc log ((i, true, bs) :: l) = (barrierW ops anc log i bs && barrierG ops anc log l) := rfl
theorem execC_skip {s : St} : execC call pure n k .skip s = some (.normal, s) := rfl
theorem execC_ret {s : St} : execC call pure n k .ret s = some (.ret, s) := rfl
theorem execC_exit {id : Nat} {s : St} : execC call pure n k (.exit id) s = some (.exit id, s) := rfl
theorem execC_reg {ops : List O} {s : St} : execC call pure n k (.reg ops) s = kReg (execOps call pure ops s) := by
  rw [execC]; cases execOps call pure ops s <;> rfl
/-- blocks numbered by the slots that lead to them -/
def kTidy (n : Nat) (s : St) : Option St := (renL (place (reach s.H 50 (List.range n) (refsL s.fr ++ upRefs s.H n))) s.fr).bind fun fr => (pickH s.H (place (reach s.H 50 (List.range n) (refsL s.fr ++ upRefs s.H n))) (reach s.H 50 (List.range n) (refsL s.fr ++ upRefs s.H n))).map fun H => ⟨fr, H, s.d⟩
def kTd (n : Nat) (ops : List O) (anc : List Nat) : Option (St × List Lg) → Option St
  | none => none
  | some r => if barrierG ops anc r.2 r.2 then kTidy n r.1 else none
theorem maskF_all {fr : List V} : maskF (List.range fr.length) fr = fr := by
  unfold maskF
  refine List.ext_getElem (by simp) fun i h1 h2 => ?_
  have h3 : ¬ fr.length ≤ i := by omega
  simp [h3]
theorem execX_eq {s : St} {ops : List O} {anc : List Nat} : execX call pure n s (ops, anc) = kTd n ops anc (execOpsW call pure 0 ops s) := by
  unfold execX
  cases execOpsW call pure 0 ops s with
  | none => rfl
  | some r =>
    simp only [Option.bind_some, kTd, barrier, AM.tidy, kTidy, maskF_all]
theorem kTd_some {n : Nat} {ops : List O} {anc : List Nat} {s : St} {log : List Lg} : kTd n ops anc (some (s, log)) = if barrierG ops anc log log then kTidy n s else none := rfl
theorem execC_drx {alts : List (List O × List Nat)} {s : St} : execC call pure n k (.drx alts) s = kReg (agree (alts.map (execX call pure n s))) := by
  simp only [execC]
  cases agree (alts.map (execX call pure n s)) <;> rfl
mutual
theorem V.eqb_refl : ∀ (a : V), a.eqb a = true := by
  intro a
  cases a <;> simp [V.eqb, eqbL_refl, eqbLL_refl]
theorem eqbL_refl : ∀ (a : List V), eqbL a a = true
  | [] => by simp [eqbL]
  | a :: as => by simp [eqbL, V.eqb_refl a, eqbL_refl as]
theorem eqbLL_refl : ∀ (a : List (List V)), eqbLL a a = true
  | [] => by simp [eqbLL]
  | a :: as => by simp [eqbLL, eqbL_refl a, eqbLL_refl as]
end
theorem eqbH_refl : ∀ (a : Heap), eqbH a a = true
  | [] => by simp [eqbH]
  | a :: as => by simp [eqbH, Blk.eqb, eqbLL_refl, eqbH_refl as]
theorem agree2 {s : St} : agree [some s, some s] = some s := by
  simp [agree, eqSt, eqbL_refl, eqbH_refl]
theorem execC_drw {ops : List O} {anc : List Nat} {s : St} : execC call pure n k (.drw ops anc) s = kDrw ops anc (execOpsW call pure 0 ops s) := by
  rw [execC]; cases execOpsW call pure 0 ops s <;> rfl
theorem execC_seq {a b : C} {s : St} : execC call pure n k (.seq a b) s = kSeq call pure n k b (execC call pure n k a s) := by
  rw [execC]; cases execC call pure n k a s with
  | none => rfl
  | some r => obtain ⟨e, s⟩ := r; cases e <;> rfl
theorem kSeq_normal {b : C} {s : St} : kSeq call pure n k b (some (.normal, s)) = execC call pure n k b s := rfl
theorem kSeq_exit {b : C} {s : St} {id : Nat} : kSeq call pure n k b (some (.exit id, s)) = some (.exit id, s) := rfl
theorem kSeq_ret {b : C} {s : St} : kSeq call pure n k b (some (.ret, s)) = some (.ret, s) := rfl
theorem execC_cond {c : Opd} {a b : C} {s : St} : execC call pure n k (.cond c a b) s = kCond call pure n k a b s (ev s.fr c) := by
  rw [execC]; cases ev s.fr c <;> try rfl
  rename_i b; cases b <;> rfl
theorem kCond_true {a b : C} {s : St} : kCond call pure n k a b s (.bool true) = execC call pure n k a s := rfl
theorem kCond_false {a b : C} {s : St} : kCond call pure n k a b s (.bool false) = execC call pure n k b s := rfl
theorem execC_block {id : Nat} {a : C} {s : St} : execC call pure n k (.block id a) s = kBlk id (execC call pure n k a s) := by
  rw [execC]; cases execC call pure n k a s <;> rfl
theorem kBlk_normal {id : Nat} {s : St} : kBlk id (some (.normal, s)) = some (.normal, s) := rfl
theorem kBlk_ret {id : Nat} {s : St} : kBlk id (some (.ret, s)) = some (.ret, s) := rfl
theorem kBlk_exit {id i : Nat} {s : St} : kBlk id (some (.exit i, s)) = some (if i = id then .normal else .exit i, s) := by
  simp only [kBlk]; by_cases h : i = id
  · simp [h]
  · simp [h]
theorem execC_loop {live : List Nat} {a : C} {s : St} : execC call pure n k (.loop live a) s = iter (tidy live n) (execC call pure n k a) k s := rfl
theorem execO_eq {d : Option Nat} {g : Option (Nat × Bool)} {i : I} {s : St} : execO call pure ⟨d, g, i⟩ s = kO d s (execV call pure ⟨d, g, i⟩ s.fr s.H) := by
  rw [execO]; cases execV call pure ⟨d, g, i⟩ s.fr s.H <;> rfl
theorem kO_some {d : Option Nat} {s : St} {v : V} {e : Eff} : kO d s (some (v, e)) = some (⟨putV s.fr d v, e.heap s.H, s.d || e.wr⟩, e.wr) := rfl
theorem kO_new {d : Option Nat} {fr : List V} {H : Heap} {b : Bool} {v : V} {l : List Blk} : kO d ⟨fr, H, b⟩ (some (v, .new l)) = some (⟨putV fr d v, H ++ l, b⟩, false) := by simp [kO, Eff.heap, Eff.wr]
theorem kO_upd {d : Option Nat} {fr : List V} {H H' : Heap} {b : Bool} {v : V} {ids : List Nat} : kO d ⟨fr, H, b⟩ (some (v, .upd H' ids)) = some (⟨putV fr d v, H', true⟩, true) := by simp [kO, Eff.heap, Eff.wr]
theorem execV_none {d : Option Nat} {i : I} {fr : List V} {H : Heap} : execV call pure ⟨d, none, i⟩ fr H = kG H (execI call pure fr H i) := by
  simp only [execV, wantedO, Option.bind_some, if_true]; cases execI call pure fr H i <;> rfl
theorem execV_some {d : Option Nat} {j : Nat} {b : Bool} {i : I} {fr : List V} {H : Heap} : execV call pure ⟨d, some (j, b), i⟩ fr H = kWant call pure i fr H b (fr.getD j .undef) := by
  simp only [execV, wantedO]
  generalize fr.getD j .undef = x
  cases x <;> simp only [kWant, Option.bind_none] <;> try rfl
  · rename_i c
    by_cases h : c = b
    · simp only [h, beq_self_eq_true, Option.bind_some, if_true]; cases execI call pure fr H i <;> rfl
    · simp [h]
  · rename_i cs; cases cs <;> rfl
theorem kWant_bool {i : I} {fr : List V} {H : Heap} {b c : Bool} : kWant call pure i fr H b (.bool c) = if c = b then kG H (execI call pure fr H i) else some (.tup [], .new []) := rfl
theorem kWant_tup {i : I} {fr : List V} {H : Heap} {b : Bool} : kWant call pure i fr H b (.tup []) = some (.tup [], .new []) := rfl
theorem kG_new {H : Heap} {v : V} {l : List Blk} : kG H (some (v, .new l)) = some (v, .new l) := rfl
theorem kG_upd {H H' : Heap} {v : V} {ids : List Nat} (h : H.length ≤ H'.length) : kG H (some (v, .upd H' ids)) = some (v, .upd H' ids) := by simp [kG, Eff.grows, h]
theorem runFn_eq {fn : Fn} {args : List V} {Hs : Heap} : runFn call pure k fn args Hs = kFin Hs.length fn.res (execC call pure Hs.length k fn.body ⟨args ++ List.replicate (fn.nt - args.length) .undef, Hs, false⟩) := by
  rw [runFn]; cases execC call pure Hs.length k fn.body ⟨args ++ List.replicate (fn.nt - args.length) .undef, Hs, false⟩ with
  | none => rfl
  | some r => obtain ⟨e, s⟩ := r; cases e <;> rfl
theorem kFin_normal {rs : List Rv} {s : St} : kFin n rs (some (.normal, s)) = finish n rs s := rfl
theorem kFin_ret {rs : List Rv} {s : St} : kFin n rs (some (.ret, s)) = finish n rs s := rfl
theorem callF_eq [Ora] {tbl : FuncId → Option Fn} {f : FuncId} {fn : Fn} {args : List V} {Hs : Heap} (h : tbl f = some fn) : callF tbl pure (k + 1) f args Hs = kFin Hs.length fn.res (execC (callF tbl pure k) pure Hs.length k fn.body ⟨args ++ List.replicate (fn.nt - args.length) .undef, Hs, false⟩) := by
  simp only [callF, h]
  exact runFn_eq
theorem callF_ora [Ora] {tbl : FuncId → Option Fn} {f : FuncId} {args : List V} {Hs : Heap} (h : tbl f = none) : callF tbl pure (k + 1) f args Hs = Ora.ora f args Hs := by simp only [callF, h]

/-! Calls. -/
def kRet (H : Heap) (fs : List (Nat × Nat)) : Option (V × Heap × Bool) → Option (V × Eff)
  | none => none
  | some r => (r.1.ren (backG [] H.length)).bind fun v' => (renH (backG [] H.length) r.2.1).map fun l' => (v', if nt3 r.1 && flatH r.2.1 then .new l' else .frz H fs l')
def kSnap (call : CallT) (H : Heap) (f : FuncId) : Option (List V × List (Nat × Nat)) → Option (V × Eff)
  | none => none
  | some s => kRet H s.2 (call f s.1 [])
theorem callV_pure {H : Heap} {f : FuncId} {args : List V} (h : pure f = true) : callV call pure H f args = kSnap call H f (snapA H args) := by
  simp only [callV, h, if_true]
  cases snapA H args with
  | none => rfl
  | some s => simp only [Option.bind_some, kSnap]; cases call f s.1 [] <;> rfl
theorem kSnap_some {H : Heap} {f : FuncId} {as : List V} {fs : List (Nat × Nat)} : kSnap call H f (some (as, fs)) = kRet H fs (call f as []) := rfl
/-- a result without references, and no blocks -/
theorem kRet_flat {H : Heap} {fs : List (Nat × Nat)} {v : V} {d : Bool} (h : v.flat = true) : kRet H fs (some (v, [], d)) = some (v, .new []) := by
  have h2 : v.ren (backG [] H.length) = some v := by cases v <;> simp_all [V.flat, V.ren]
  have h1 : nt3 v = true := by cases v <;> simp_all [V.flat, nt3, nt2, nt1]
  simp [kRet, h2, h1, renH, flatH]
theorem kRet_bool {H : Heap} {fs : List (Nat × Nat)} {b d : Bool} : kRet H fs (some (.bool b, [], d)) = some (.bool b, .new []) := kRet_flat rfl
theorem kRet_int {H : Heap} {fs : List (Nat × Nat)} {k : IntKind} {n : Int} {d : Bool} : kRet H fs (some (.int k n, [], d)) = some (.int k n, .new []) := kRet_flat rfl
theorem kRet_str {H : Heap} {fs : List (Nat × Nat)} {s : ByteArray} {d : Bool} : kRet H fs (some (.str s, [], d)) = some (.str s, .new []) := kRet_flat rfl
theorem kRet_nils {H : Heap} {fs : List (Nat × Nat)} {d : Bool} : kRet H fs (some (.nils, [], d)) = some (.nils, .new []) := kRet_flat rfl

/-! Values of which only a part is known. -/
def V.lst : V → Bool
  | .nils | .tsl _ _ | .sl _ _ _ _ _ => true
  | _ => false
def lenV : V → Nat
  | .sl _ _ _ _ n => n
  | .tsl _ es => es.length
  | _ => 0
def kLen (str : Bool) : V → Option (V × Eff)
  | .str s => if str then some (.int .i64 s.size, .new []) else none
  | .nils => if str then none else some (.int .i64 0, .new [])
  | .sl _ _ _ _ n => if str then none else some (.int .i64 n, .new [])
  | .tsl _ es => if str then none else some (.int .i64 es.length, .new [])
  | _ => none
theorem execI_len {fr : List V} {H : Heap} {b : Bool} {x : Opd} : execI call pure fr H (.len b x) = kLen b (ev fr x) := by
  simp only [execI]; cases ev fr x <;> rfl
theorem kLen_lst {v : V} (h : v.lst = true) : kLen false v = some (.int .i64 (lenV v), .new []) := by
  cases v <;> simp_all [V.lst, kLen, lenV]
theorem snap1_tree {H : Heap} {v : V} (h : v.tree = true) : v.snap1 H = some (v, []) := by
  cases v <;> simp_all [V.tree, V.snap1]
theorem snap_tree {H : Heap} {v : V} (h : v.tree = true) : v.snap H = some (v, []) := by
  cases v <;> simp_all [V.tree, V.snap, V.snap1]
theorem refs_tree {v : V} (h : v.tree = true) : v.refs = [] := by
  cases v <;> simp_all [V.tree, V.refs]
  rename_i f cs; cases cs <;> simp_all [refsL, V.tree]
theorem cells_cell {v : V} (h : v.cell = true) : v.cells = [v] := by
  cases v <;> simp_all [V.cell, V.cells]
theorem cell_bool (b : Bool) : V.cell (V.bool b) = true := by simp only [V.cell]
theorem tree_bool (b : Bool) : V.tree (V.bool b) = true := by simp only [V.tree]
theorem flat_bool (b : Bool) : V.flat (V.bool b) = true := by simp only [V.flat]
theorem cells_bool (b : Bool) : V.cells (V.bool b) = [(V.bool b)] := rfl
theorem cell_int (k : IntKind) (n : Int) : V.cell (V.int k n) = true := by simp only [V.cell]
theorem tree_int (k : IntKind) (n : Int) : V.tree (V.int k n) = true := by simp only [V.tree]
theorem flat_int (k : IntKind) (n : Int) : V.flat (V.int k n) = true := by simp only [V.flat]
theorem cells_int (k : IntKind) (n : Int) : V.cells (V.int k n) = [(V.int k n)] := rfl
theorem cell_str (s : ByteArray) : V.cell (V.str s) = true := by simp only [V.cell]
theorem tree_str (s : ByteArray) : V.tree (V.str s) = true := by simp only [V.tree]
theorem flat_str (s : ByteArray) : V.flat (V.str s) = true := by simp only [V.flat]
theorem cells_str (s : ByteArray) : V.cells (V.str s) = [(V.str s)] := rfl
theorem cell_nilp  : V.cell V.nilp = true := by simp only [V.cell]
theorem tree_nilp  : V.tree V.nilp = true := by simp only [V.tree]
theorem flat_nilp  : V.flat V.nilp = true := by simp only [V.flat]
theorem cells_nilp  : V.cells V.nilp = [V.nilp] := rfl
theorem cell_nils  : V.cell V.nils = true := by simp only [V.cell]
theorem tree_nils  : V.tree V.nils = true := by simp only [V.tree]
theorem flat_nils  : V.flat V.nils = true := by simp only [V.flat]
theorem cells_nils  : V.cells V.nils = [V.nils] := rfl
theorem cell_nilf  : V.cell V.nilf = true := by simp only [V.cell]
theorem tree_nilf  : V.tree V.nilf = true := by simp only [V.tree]
theorem flat_nilf  : V.flat V.nilf = true := by simp only [V.flat]
theorem cells_nilf  : V.cells V.nilf = [V.nilf] := rfl
theorem cell_undef  : V.cell V.undef = false := by simp only [V.cell]
theorem tree_undef  : V.tree V.undef = false := by simp only [V.tree]
theorem flat_undef  : V.flat V.undef = false := by simp only [V.flat]
theorem cells_undef  : V.cells V.undef = [V.undef] := rfl
theorem cell_ptr (b L i o : Nat) : V.cell (V.ptr b L i o) = true := by simp only [V.cell]
theorem tree_ptr (b L i o : Nat) : V.tree (V.ptr b L i o) = false := by simp only [V.tree]
theorem flat_ptr (b L i o : Nat) : V.flat (V.ptr b L i o) = false := by simp only [V.flat]
theorem cells_ptr (b L i o : Nat) : V.cells (V.ptr b L i o) = [(V.ptr b L i o)] := rfl
theorem cell_sl (z b L o n : Nat) : V.cell (V.sl z b L o n) = true := by simp only [V.cell]
theorem tree_sl (z b L o n : Nat) : V.tree (V.sl z b L o n) = false := by simp only [V.tree]
theorem flat_sl (z b L o n : Nat) : V.flat (V.sl z b L o n) = false := by simp only [V.flat]
theorem cells_sl (z b L o n : Nat) : V.cells (V.sl z b L o n) = [(V.sl z b L o n)] := rfl
theorem cell_tsl (z : Nat) (es : List (List V)) : V.cell (V.tsl z es) = true := by simp only [V.cell]
theorem tree_tsl (z : Nat) (es : List (List V)) : V.tree (V.tsl z es) = true := by simp only [V.tree]
theorem flat_tsl (z : Nat) (es : List (List V)) : V.flat (V.tsl z es) = false := by simp only [V.flat]
theorem cells_tsl (z : Nat) (es : List (List V)) : V.cells (V.tsl z es) = [(V.tsl z es)] := rfl
theorem cell_tptr (cs : List V) (o : Nat) : V.cell (V.tptr cs o) = true := by simp only [V.cell]
theorem tree_tptr (cs : List V) (o : Nat) : V.tree (V.tptr cs o) = true := by simp only [V.tree]
theorem flat_tptr (cs : List V) (o : Nat) : V.flat (V.tptr cs o) = false := by simp only [V.flat]
theorem cells_tptr (cs : List V) (o : Nat) : V.cells (V.tptr cs o) = [(V.tptr cs o)] := rfl
theorem cell_agg (cs : List V) : V.cell (V.agg cs) = false := by simp only [V.cell]
theorem tree_agg (cs : List V) : V.tree (V.agg cs) = false := by simp only [V.tree]
theorem flat_agg (cs : List V) : V.flat (V.agg cs) = false := by simp only [V.flat]
theorem cells_agg (cs : List V) : V.cells (V.agg cs) = cs := rfl
theorem cell_tup (cs : List V) : V.cell (V.tup cs) = false := by simp only [V.cell]
theorem tree_tup (cs : List V) : V.tree (V.tup cs) = false := by simp only [V.tree]
theorem flat_tup (cs : List V) : V.flat (V.tup cs) = false := by simp only [V.flat]
theorem cells_tup (cs : List V) : V.cells (V.tup cs) = [(V.tup cs)] := rfl
theorem cell_fn (f : FuncId) (cs : List V) : V.cell (V.fn f cs) = true := by simp only [V.cell]
theorem flat_fn (f : FuncId) (cs : List V) : V.flat (V.fn f cs) = false := by simp only [V.flat]
theorem cells_fn (f : FuncId) (cs : List V) : V.cells (V.fn f cs) = [(V.fn f cs)] := rfl
theorem tree_fn0 (f : FuncId) : V.tree (V.fn f []) = true := by simp only [V.tree]
theorem tree_fn1 (f : FuncId) (v : V) (cs : List V) : V.tree (V.fn f (v :: cs)) = false := by simp only [V.tree]
theorem kLen_nils  : kLen false V.nils = some (V.int .i64 0, .new []) := rfl
theorem kLen_sl (z b L o n : Nat) : kLen false (V.sl z b L o n) = some (V.int .i64 n, .new []) := rfl
theorem kLen_tsl (z : Nat) (es : List (List V)) : kLen false (V.tsl z es) = some (V.int .i64 es.length, .new []) := rfl
theorem kLen_str (s : ByteArray) : kLen true (V.str s) = some (V.int .i64 s.size, .new []) := rfl
theorem snap1_sl (H : Heap) (z b L o n : Nat) : V.snap1 H (V.sl z b L o n) = (H[b]?).bind fun h => if h.es.length = L && !h.box && decide (o + n ≤ L) then some (.tsl h.z ((h.es.drop o).take n), [(b, o + n)]) else none := rfl
theorem snap_sl (H : Heap) (z b L o n : Nat) : V.snap H (V.sl z b L o n) = V.snap1 H (V.sl z b L o n) := rfl
theorem snap_agg (H : Heap) (cs : List V) : V.snap H (V.agg cs) = (snapL H cs).map fun r => (.agg r.1, r.2) := rfl
theorem snap1_bool (H : Heap) (b : Bool) : V.snap1 H (V.bool b) = some ((V.bool b), []) := rfl
theorem snap_bool (H : Heap) (b : Bool) : V.snap H (V.bool b) = some ((V.bool b), []) := rfl
theorem snap1_int (H : Heap) (k : IntKind) (n : Int) : V.snap1 H (V.int k n) = some ((V.int k n), []) := rfl
theorem snap_int (H : Heap) (k : IntKind) (n : Int) : V.snap H (V.int k n) = some ((V.int k n), []) := rfl
theorem snap1_str (H : Heap) (s : ByteArray) : V.snap1 H (V.str s) = some ((V.str s), []) := rfl
theorem snap_str (H : Heap) (s : ByteArray) : V.snap H (V.str s) = some ((V.str s), []) := rfl
theorem snap1_nilp (H : Heap)  : V.snap1 H V.nilp = some (V.nilp, []) := rfl
theorem snap_nilp (H : Heap)  : V.snap H V.nilp = some (V.nilp, []) := rfl
theorem snap1_nils (H : Heap)  : V.snap1 H V.nils = some (V.nils, []) := rfl
theorem snap_nils (H : Heap)  : V.snap H V.nils = some (V.nils, []) := rfl
theorem snap1_nilf (H : Heap)  : V.snap1 H V.nilf = some (V.nilf, []) := rfl
theorem snap_nilf (H : Heap)  : V.snap H V.nilf = some (V.nilf, []) := rfl
theorem snap1_tsl (H : Heap) (z : Nat) (es : List (List V)) : V.snap1 H (V.tsl z es) = some ((V.tsl z es), []) := rfl
theorem snap_tsl (H : Heap) (z : Nat) (es : List (List V)) : V.snap H (V.tsl z es) = some ((V.tsl z es), []) := rfl
theorem snap1_tptr (H : Heap) (cs : List V) (o : Nat) : V.snap1 H (V.tptr cs o) = some ((V.tptr cs o), []) := rfl
theorem snap_tptr (H : Heap) (cs : List V) (o : Nat) : V.snap H (V.tptr cs o) = some ((V.tptr cs o), []) := rfl
theorem bren_plain {g : Nat → Option Nat} {z fz : Nat} {es : List (List V)} {fl : Bool} : Blk.ren g ⟨z, es, fz, false, fl⟩ = some ⟨z, es, fz, false, fl⟩ := by simp [Blk.ren]
theorem bren_box {g : Nat → Option Nat} {z fz : Nat} {e : List V} {fl : Bool} : Blk.ren g ⟨z, [e], fz, true, fl⟩ = (renL g e).map fun e => ⟨z, [e], fz, true, fl⟩ := by simp [Blk.ren]
theorem frz_nil (H : Heap) (l : List Blk) : Eff.frz H [] l = .new l := rfl
theorem kRet_sl {H : Heap} {fs : List (Nat × Nat)} {z b L o n z' fz : Nat} {es : List (List V)} {d : Bool} : kRet H fs (some (.sl z b L o n, [⟨z', es, fz, false, true⟩], d)) = some (.sl z (H.length + b) L o n, .new [⟨z', es, fz, false, true⟩]) := by
  simp [kRet, V.ren, backG, renH, Blk.ren, nt3, nt2, nt1, flatH]
/-! A loop's rounds one by one. -/
def kPost (pre : St → Option St) (f : St → Option (Ex × St)) (k : Nat) : Option (Ex × St) → Option (Ex × St)
  | some (.normal, s) => iter pre f k s
  | r => r
def kPre (pre : St → Option St) (f : St → Option (Ex × St)) (k : Nat) : Option St → Option (Ex × St)
  | none => none
  | some s => kPost pre f k (f s)
theorem kIter_succ {pre : St → Option St} {f : St → Option (Ex × St)} {k : Nat} {s : St} : iter pre f (k + 1) s = kPre pre f k (pre s) := by
  rw [iter]
  cases pre s with
  | none => rfl
  | some s =>
    simp only [Option.bind_some, kPre]
    cases f s with
    | none => rfl
    | some r => obtain ⟨e, s⟩ := r; cases e <;> rfl
theorem kPre_some {pre : St → Option St} {f : St → Option (Ex × St)} {k : Nat} {s : St} : kPre pre f k (some s) = kPost pre f k (f s) := rfl
theorem kPost_normal {pre : St → Option St} {f : St → Option (Ex × St)} {k : Nat} {s : St} : kPost pre f k (some (.normal, s)) = iter pre f k s := rfl
theorem kPost_exit {pre : St → Option St} {f : St → Option (Ex × St)} {k id : Nat} {s : St} : kPost pre f k (some (.exit id, s)) = some (.exit id, s) := rfl
theorem kPost_ret {pre : St → Option St} {f : St → Option (Ex × St)} {k : Nat} {s : St} : kPost pre f k (some (.ret, s)) = some (.ret, s) := rfl
def imin (a b : Int) : Int := if b < a then b else a
def imax (a b : Int) : Int := if a < b then b else a
theorem mm2_min {k : IntKind} {a b : Int} : mm2 true (.int k a) (.int k b) = some (.int k (imin a b)) := by cases k <;> rfl
theorem mm2_max {k : IntKind} {a b : Int} : mm2 false (.int k a) (.int k b) = some (.int k (imax a b)) := by cases k <;> rfl
theorem wrap64 {n : Int} (h1 : -9223372036854775808 ≤ n) (h2 : n ≤ 9223372036854775807) : IntKind.i64.wrap n = n := by
  rw [IntKind.wrap_i64]; omega
/-- results without references and blocks -/
theorem kRet_tup {H : Heap} {vs : List V} {d : Bool} : kRet H [] (some (.tup vs, [], d)) = (renL (backG [] H.length) vs).map fun vs' => (.tup vs', .new []) := by
  simp only [kRet, V.ren, renH, flatH]
  cases renL (backG [] H.length) vs <;> simp [Eff.frz]
theorem kRet_agg {H : Heap} {vs : List V} {d : Bool} : kRet H [] (some (.agg vs, [], d)) = (renL (backG [] H.length) vs).map fun vs' => (.agg vs', .new []) := by
  simp only [kRet, V.ren, renH, flatH]
  cases renL (backG [] H.length) vs <;> simp [Eff.frz]
theorem kRet_tree {H : Heap} {v : V} {d : Bool} (h : v.tree = true) : kRet H [] (some (v, [], d)) = some (v, .new []) := by
  simp [kRet, ren_tree h, renH, Eff.frz]
/-- a loop that counts up to m, the state at its head being T i -/
theorem iter_up {pre : St → Option St} {f : St → Option (Ex × St)} {T : Nat → St} {m : Nat} {r : Ex × St} (hs : ∀ i, i < m → ∃ s', f (T i) = some (.normal, s') ∧ pre s' = some (T (i + 1))) (he : f (T m) = some r) (hr : r.1 ≠ .normal) :
    ∀ (j : Nat), j ≤ m → ∀ {s : St}, pre s = some (T j) → ∀ k, m - j < k → iter pre f k s = some r := by
  intro j hj
  generalize hd : m - j = d
  induction d generalizing j with
  | zero =>
    intro s h k hk
    obtain rfl : j = m := by omega
    cases k with
    | zero => omega
    | succ k =>
      simp only [iter, h, Option.bind_some, he]
  | succ d ih =>
    intro s h k hk
    cases k with
    | zero => omega
    | succ k =>
      obtain ⟨s', h1, h2⟩ := hs j (by omega)
      simp only [iter, h, Option.bind_some, h1]
      exact ih (j + 1) (by omega) (by omega) h2 k (by omega)
theorem place_nil {b : Nat} : place [] b = Option.none := rfl
theorem place_cons {a b : Nat} {l : List Nat} : place (a :: l) b = if a = b then some 0 else (place l b).map (· + 1) := by
  unfold place
  rw [List.idxOf?_cons]
  by_cases h : a = b <;> simp [h]
theorem nat_lt0 (n : Nat) : ((n : Int) < 0) = False := by simp
/-- the state at the head of the next round -/
def kNext (pre : St → Option St) : Option (Ex × St) → Option St
  | some (.normal, s) => pre s
  | _ => none
theorem kNext_normal {pre : St → Option St} {s : St} : kNext pre (some (.normal, s)) = pre s := rfl
theorem kNext_some {pre : St → Option St} {x : Option (Ex × St)} {t : St} (h : kNext pre x = some t) : ∃ s', x = some (.normal, s') ∧ pre s' = some t := by
  cases x with
  | none => cases h
  | some r =>
    obtain ⟨e, s⟩ := r
    cases e with
    | normal => exact ⟨s, rfl, h⟩
    | exit id => cases h
    | ret => cases h
/-- a loop that counts from 0 up to m -/
theorem iter_to {pre : St → Option St} {f : St → Option (Ex × St)} (T : Nat → St) (m : Nat) {r : Ex × St} {s : St} {k : Nat} (h0 : pre s = some (T 0)) (hk : m < k) (hs : ∀ i, i < m → kNext pre (f (T i)) = some (T (i + 1))) (he : f (T m) = some r) (hr : r.1 ≠ .normal) :
    iter pre f k s = some r :=
  iter_up (fun i hi => kNext_some (hs i hi)) he hr 0 (Nat.zero_le _) h0 k (by omega)
end
attribute [simp]  kRet_bool kRet_int kRet_str kRet_nils execC_skip execC_seq execC_reg execC_drw execC_drx execX_eq kTd_some agree2 kTidy execC_ret execC_exit execC_cond kCond_true kCond_false execC_block kBlk_normal kBlk_ret kBlk_exit execOps_cons execOps_nil kOps_some execOpsW_cons execOpsW_nil kOpsW_new kOpsW_look kOpsW_upd kW_some kReg_some kDrw_some barrierG_nil barrierG_look barrierG_wr I.rdB kSeq_normal kSeq_exit kSeq_ret kFin_normal kFin_ret
  execO_eq kO_new kO_upd execV_none execV_some kWant_bool kWant_tup kG_new kG_upd execI.eq_1 execI.eq_2 execI.eq_3 execI.eq_4 execI.eq_5 execI.eq_6 execI.eq_7 execI.eq_8 execI.eq_9 execI.eq_10 execI.eq_11 execI.eq_12 execI.eq_13 execI.eq_14 execI.eq_15 execI.eq_16 execI.eq_17 execI.eq_18 execI.eq_19 execI.eq_20 execI.eq_21 execI.eq_22 execI.eq_23 execI.eq_24 execI.eq_25 execI.eq_27 execI.eq_28 execI.eq_29 execI.eq_30 execI_len  kIter_succ kPre_some kPost_normal kPost_exit kPost_ret mm2_min mm2_max kNext_normal nat_lt0 wrap64 mmL kRet_tup kRet_agg kRet_tree tidy maskF ev evs putV    ldPl stPl cutV binV intBin isShift resV packV finish reach upRefs V.ren renL pickH V.refs refsL place_nil place_cons kSnap_some fillV snapA snapL cell_bool tree_bool flat_bool cells_bool cell_int tree_int flat_int cells_int cell_str tree_str flat_str cells_str cell_nilp tree_nilp flat_nilp cells_nilp cell_nils tree_nils flat_nils cells_nils cell_nilf tree_nilf flat_nilf cells_nilf cell_undef tree_undef flat_undef cells_undef cell_ptr tree_ptr flat_ptr cells_ptr cell_sl tree_sl flat_sl cells_sl cell_tsl tree_tsl flat_tsl cells_tsl cell_tptr tree_tptr flat_tptr cells_tptr cell_agg tree_agg flat_agg cells_agg cell_tup tree_tup flat_tup cells_tup cell_fn flat_fn cells_fn tree_fn0 tree_fn1 kLen_nils kLen_sl kLen_tsl kLen_str snap1_sl snap_sl snap_agg snap1_tree snap_tree refs_tree ren_tree cells_cell kLen_lst snap1_bool snap_bool snap1_int snap_int snap1_str snap_str snap1_nilp snap_nilp snap1_nils snap_nils snap1_nilf snap_nilf snap1_tsl snap_tsl snap1_tptr snap_tptr frz_nil kRet_sl chunk bren_plain bren_box
end Go.AM
