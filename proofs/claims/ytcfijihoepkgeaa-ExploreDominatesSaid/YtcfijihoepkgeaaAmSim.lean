/- Running code over values that are not all known: equations for simp; what is still to be run stays folded. -/
import Derived.Test.YtcfijihoepkgeaaAmFront
set_option linter.unusedVariables false
namespace Go.AM
open Go

section
variable {call : CallT} {pure : FuncId → Bool} {n k : Nat}
/-! What comes next, held back until what comes before is known. -/
def kOps (call : CallT) (pure : FuncId → Bool) (os : List O) : Option (St × Bool) → Option St
  | none => none
  | some r => execOps call pure os r.1
def kOpsW (call : CallT) (pure : FuncId → Bool) (i : Nat) (os : List O) : Option (St × Bool) → Option (St × List Nat)
  | none => none
  | some r => (execOpsW call pure (i + 1) os r.1).map fun q => (q.1, if r.2 then i :: q.2 else q.2)
def kW (i : Nat) : Option (St × List Nat) → Option (St × List Nat)
  | none => none
  | some q => some (q.1, i :: q.2)
def kReg : Option St → Option (Ex × St)
  | none => none
  | some s => some (.normal, s)
def kDrw (ops : List O) (anc : List Nat) : Option (St × List Nat) → Option (Ex × St)
  | none => none
  | some r => if barrier ops anc r.2 then some (.normal, r.1) else none
def kSeq (call : CallT) (pure : FuncId → Bool) (n k : Nat) (b : C) : Option (Ex × St) → Option (Ex × St)
  | some (.normal, s) => execC call pure n k b s
  | r => r
def kCond (call : CallT) (pure : FuncId → Bool) (n k : Nat) (a b : C) (s : St) : V → Option (Ex × St)
  | .bool true => execC call pure n k a s
  | .bool false => execC call pure n k b s
  | _ => none
def kBlk (id : Nat) : Option (Ex × St) → Option (Ex × St)
  | none => none
  | some r => some (if r.1 = .exit id then .normal else r.1, r.2)
def kO (d : Option Nat) (s : St) : Option (V × Eff) → Option (St × Bool)
  | none => none
  | some r => some (⟨putV s.fr d r.1, r.2.heap s.H, s.d || r.2.wr⟩, r.2.wr)
def kG (H : Heap) : Option (V × Eff) → Option (V × Eff)
  | none => none
  | some r => if r.2.grows H then some r else none
def kWant (call : CallT) (pure : FuncId → Bool) (i : I) (fr : List V) (H : Heap) (b : Bool) : V → Option (V × Eff)
  | .bool c => if c = b then kG H (execI call pure fr H i) else some (.tup [], .new [])
  | .tup [] => some (.tup [], .new [])
  | _ => none
def kFin (n : Nat) (rs : List Rv) : Option (Ex × St) → Option (V × Heap × Bool)
  | none => none
  | some (.exit _, _) => none
  | some (_, s) => finish n rs s

theorem execOps_nil {s : St} : execOps call pure [] s = some s := rfl
theorem execOps_cons {o : O} {os : List O} {s : St} : execOps call pure (o :: os) s = kOps call pure os (execO call pure o s) := by
  rw [execOps]; cases execO call pure o s <;> rfl
theorem kOps_some {os : List O} {r : St × Bool} : kOps call pure os (some r) = execOps call pure os r.1 := rfl
theorem execOpsW_nil {i : Nat} {s : St} : execOpsW call pure i [] s = some (s, []) := rfl
theorem execOpsW_cons {i : Nat} {o : O} {os : List O} {s : St} : execOpsW call pure i (o :: os) s = kOpsW call pure i os (execO call pure o s) := by
  rw [execOpsW]; cases execO call pure o s <;> rfl
theorem kOpsW_true {i : Nat} {os : List O} {s : St} : kOpsW call pure i os (some (s, true)) = kW i (execOpsW call pure (i + 1) os s) := by
  simp only [kOpsW]; cases execOpsW call pure (i + 1) os s <;> rfl
theorem kOpsW_false {i : Nat} {os : List O} {s : St} : kOpsW call pure i os (some (s, false)) = execOpsW call pure (i + 1) os s := by
  simp only [kOpsW]; cases execOpsW call pure (i + 1) os s <;> rfl
theorem kW_some {i : Nat} {q : St × List Nat} : kW i (some q) = some (q.1, i :: q.2) := rfl
theorem kReg_some {s : St} : kReg (some s) = some (.normal, s) := rfl
theorem kDrw_nil {ops : List O} {anc : List Nat} {s : St} : kDrw ops anc (some (s, [])) = some (.normal, s) := rfl
theorem kDrw_some {ops : List O} {anc : List Nat} {s : St} {wr : List Nat} (h : barrier ops anc wr = true) : kDrw ops anc (some (s, wr)) = some (.normal, s) := by simp only [kDrw, h, if_true]
theorem execC_skip {s : St} : execC call pure n k .skip s = some (.normal, s) := rfl
theorem execC_ret {s : St} : execC call pure n k .ret s = some (.ret, s) := rfl
theorem execC_exit {id : Nat} {s : St} : execC call pure n k (.exit id) s = some (.exit id, s) := rfl
theorem execC_reg {ops : List O} {s : St} : execC call pure n k (.reg ops) s = kReg (execOps call pure ops s) := by
  rw [execC]; cases execOps call pure ops s <;> rfl
theorem execC_drw {ops : List O} {anc : List Nat} {s : St} : execC call pure n k (.drw ops anc) s = kDrw ops anc (execOpsW call pure 0 ops s) := by
  rw [execC]; cases execOpsW call pure 0 ops s <;> rfl
theorem execC_seq {a b : C} {s : St} : execC call pure n k (.seq a b) s = kSeq call pure n k b (execC call pure n k a s) := by
  rw [execC]; cases execC call pure n k a s with
  | none => rfl
  | some r => obtain ⟨e, s⟩ := r; cases e <;> rfl
theorem kSeq_normal {b : C} {s : St} : kSeq call pure n k b (some (.normal, s)) = execC call pure n k b s := rfl
theorem kSeq_exit {b : C} {s : St} {id : Nat} : kSeq call pure n k b (some (.exit id, s)) = some (.exit id, s) := rfl
theorem kSeq_ret {b : C} {s : St} : kSeq call pure n k b (some (.ret, s)) = some (.ret, s) := rfl
theorem execC_cond {c : Opd} {a b : C} {s : St} : execC call pure n k (.cond c a b) s = kCond call pure n k a b s (ev s.fr c) := by
  rw [execC]; cases ev s.fr c <;> try rfl
  rename_i b; cases b <;> rfl
theorem kCond_true {a b : C} {s : St} : kCond call pure n k a b s (.bool true) = execC call pure n k a s := rfl
theorem kCond_false {a b : C} {s : St} : kCond call pure n k a b s (.bool false) = execC call pure n k b s := rfl
theorem execC_block {id : Nat} {a : C} {s : St} : execC call pure n k (.block id a) s = kBlk id (execC call pure n k a s) := by
  rw [execC]; cases execC call pure n k a s <;> rfl
theorem kBlk_normal {id : Nat} {s : St} : kBlk id (some (.normal, s)) = some (.normal, s) := rfl
theorem kBlk_ret {id : Nat} {s : St} : kBlk id (some (.ret, s)) = some (.ret, s) := rfl
theorem kBlk_exit {id i : Nat} {s : St} : kBlk id (some (.exit i, s)) = some (if i = id then .normal else .exit i, s) := by
  simp only [kBlk]; by_cases h : i = id
  · simp [h]
  · simp [h]
theorem execC_loop {live : List Nat} {a : C} {s : St} : execC call pure n k (.loop live a) s = iter (tidy live n) (execC call pure n k a) k s := rfl
theorem execO_eq {d : Option Nat} {g : Option (Nat × Bool)} {i : I} {s : St} : execO call pure ⟨d, g, i⟩ s = kO d s (execV call pure ⟨d, g, i⟩ s.fr s.H) := by
  rw [execO]; cases execV call pure ⟨d, g, i⟩ s.fr s.H <;> rfl
theorem kO_some {d : Option Nat} {s : St} {v : V} {e : Eff} : kO d s (some (v, e)) = some (⟨putV s.fr d v, e.heap s.H, s.d || e.wr⟩, e.wr) := rfl
theorem kO_new {d : Option Nat} {fr : List V} {H : Heap} {b : Bool} {v : V} {l : List Blk} : kO d ⟨fr, H, b⟩ (some (v, .new l)) = some (⟨putV fr d v, H ++ l, b⟩, false) := by simp [kO, Eff.heap, Eff.wr]
theorem kO_upd {d : Option Nat} {fr : List V} {H H' : Heap} {b : Bool} {v : V} {ids : List Nat} : kO d ⟨fr, H, b⟩ (some (v, .upd H' ids)) = some (⟨putV fr d v, H', true⟩, true) := by simp [kO, Eff.heap, Eff.wr]
theorem execV_none {d : Option Nat} {i : I} {fr : List V} {H : Heap} : execV call pure ⟨d, none, i⟩ fr H = kG H (execI call pure fr H i) := by
  simp only [execV, wantedO, Option.bind_some, if_true]; cases execI call pure fr H i <;> rfl
theorem execV_some {d : Option Nat} {j : Nat} {b : Bool} {i : I} {fr : List V} {H : Heap} : execV call pure ⟨d, some (j, b), i⟩ fr H = kWant call pure i fr H b (fr.getD j .undef) := by
  simp only [execV, wantedO]
  generalize fr.getD j .undef = x
  cases x <;> simp only [kWant, Option.bind_none] <;> try rfl
  · rename_i c
    by_cases h : c = b
    · simp only [h, beq_self_eq_true, Option.bind_some, if_true]; cases execI call pure fr H i <;> rfl
    · simp [h]
  · rename_i cs; cases cs <;> rfl
theorem kWant_bool {i : I} {fr : List V} {H : Heap} {b c : Bool} : kWant call pure i fr H b (.bool c) = if c = b then kG H (execI call pure fr H i) else some (.tup [], .new []) := rfl
theorem kWant_tup {i : I} {fr : List V} {H : Heap} {b : Bool} : kWant call pure i fr H b (.tup []) = some (.tup [], .new []) := rfl
theorem kG_new {H : Heap} {v : V} {l : List Blk} : kG H (some (v, .new l)) = some (v, .new l) := rfl
theorem kG_upd {H H' : Heap} {v : V} {ids : List Nat} (h : H.length ≤ H'.length) : kG H (some (v, .upd H' ids)) = some (v, .upd H' ids) := by simp [kG, Eff.grows, h]
theorem runFn_eq {fn : Fn} {args : List V} {Hs : Heap} : runFn call pure k fn args Hs = kFin Hs.length fn.res (execC call pure Hs.length k fn.body ⟨args ++ List.replicate (fn.nt - args.length) .undef, Hs, false⟩) := by
  rw [runFn]; cases execC call pure Hs.length k fn.body ⟨args ++ List.replicate (fn.nt - args.length) .undef, Hs, false⟩ with
  | none => rfl
  | some r => obtain ⟨e, s⟩ := r; cases e <;> rfl
theorem kFin_normal {rs : List Rv} {s : St} : kFin n rs (some (.normal, s)) = finish n rs s := rfl
theorem kFin_ret {rs : List Rv} {s : St} : kFin n rs (some (.ret, s)) = finish n rs s := rfl
theorem callF_eq {tbl : FuncId → Option Fn} {f : FuncId} {fn : Fn} {args : List V} {Hs : Heap} (h : tbl f = some fn) : callF tbl pure (k + 1) f args Hs = kFin Hs.length fn.res (execC (callF tbl pure k) pure Hs.length k fn.body ⟨args ++ List.replicate (fn.nt - args.length) .undef, Hs, false⟩) := by
  show ((tbl f).bind fun fn => runFn (callF tbl pure k) pure k fn args Hs) = _
  rw [h, Option.bind_some, runFn_eq]

/-! Calls. -/
def kRet (H : Heap) (fs : List (Nat × Nat)) : Option (V × Heap × Bool) → Option (V × Eff)
  | none => none
  | some r => (r.1.ren (backG [] H.length)).bind fun v' => (renH (backG [] H.length) r.2.1).map fun l' => (v', if nt3 r.1 && flatH r.2.1 then .new l' else .frz H fs l')
def kSnap (call : CallT) (H : Heap) (f : FuncId) : Option (List V × List (Nat × Nat)) → Option (V × Eff)
  | none => none
  | some s => kRet H s.2 (call f s.1 [])
theorem callV_pure {H : Heap} {f : FuncId} {args : List V} (h : pure f = true) : callV call pure H f args = kSnap call H f (snapA H args) := by
  simp only [callV, h, if_true]
  cases snapA H args with
  | none => rfl
  | some s => simp only [Option.bind_some, kSnap]; cases call f s.1 [] <;> rfl
theorem kSnap_some {H : Heap} {f : FuncId} {as : List V} {fs : List (Nat × Nat)} : kSnap call H f (some (as, fs)) = kRet H fs (call f as []) := rfl
/-- a result without references, and no blocks -/
theorem kRet_flat {H : Heap} {fs : List (Nat × Nat)} {v : V} {d : Bool} (h : v.flat = true) : kRet H fs (some (v, [], d)) = some (v, .new []) := by
  have h2 : v.ren (backG [] H.length) = some v := by cases v <;> simp_all [V.flat, V.ren]
  have h1 : nt3 v = true := by cases v <;> simp_all [V.flat, nt3, nt2, nt1]
  simp [kRet, h2, h1, renH, flatH]
theorem kRet_bool {H : Heap} {fs : List (Nat × Nat)} {b d : Bool} : kRet H fs (some (.bool b, [], d)) = some (.bool b, .new []) := kRet_flat rfl
theorem kRet_int {H : Heap} {fs : List (Nat × Nat)} {k : IntKind} {n : Int} {d : Bool} : kRet H fs (some (.int k n, [], d)) = some (.int k n, .new []) := kRet_flat rfl
theorem kRet_str {H : Heap} {fs : List (Nat × Nat)} {s : ByteArray} {d : Bool} : kRet H fs (some (.str s, [], d)) = some (.str s, .new []) := kRet_flat rfl
theorem kRet_nils {H : Heap} {fs : List (Nat × Nat)} {d : Bool} : kRet H fs (some (.nils, [], d)) = some (.nils, .new []) := kRet_flat rfl
end
attribute [simp] V.tree kRet_bool kRet_int kRet_str kRet_nils execC_skip execC_seq execC_reg execC_drw execC_ret execC_exit execC_cond kCond_true kCond_false execC_block kBlk_normal kBlk_ret kBlk_exit execOps_cons execOps_nil kOps_some execOpsW_cons execOpsW_nil kOpsW_true kOpsW_false kW_some kReg_some kDrw_nil kSeq_normal kSeq_exit kSeq_ret kFin_normal kFin_ret
  execO_eq kO_new kO_upd execV_none execV_some kWant_bool kWant_tup kG_new kG_upd execI ev evs putV V.cells V.cell V.flat ldPl stPl cutV binV intBin isShift resV packV finish reach upRefs V.ren renL pickH V.refs refsL place kSnap_some fillV snapA snapL V.snap V.snap1
end Go.AM
