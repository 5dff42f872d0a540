/- One operation of the executor against the model's: values, memory. -/
import Derived.Test.YtdgineiemjplhaaAmSnap
import Derived.WalkKit
import Derived.Laws.Append
import Derived.Laws.Slices
import Derived.Laws.StructEq
set_option linter.unusedVariables false
set_option linter.unusedSimpArgs false
namespace Go.AM
open Go Go.RowKit

structure FrOk (ρ : Rho) (F : Fz) (fr : List V) (tm : Array Value) : Prop where
  len : fr.length = tm.size
  rel : ∀ t, Rel ρ F (fr.getD t .undef) (tm.getD t Go.undef)
theorem FrOk.mono {ρ ρ' : Rho} {F F' : Fz} (hR : Rle ρ ρ') (hF : Fle F F') {fr : List V} {tm : Array Value} (h : FrOk ρ F fr tm) : FrOk ρ' F' fr tm := ⟨h.len, fun t => (h.rel t).mono hR hF⟩
theorem FrOk.put {ρ : Rho} {F : Fz} {fr : List V} {a : Act} (h : FrOk ρ F fr a.tmps) (d : Option Nat) {v : V} {u : Value} (hr : Rel ρ F v u) : FrOk ρ F (putV fr d v) (a.put d u).tmps := by
  cases d with
  | none => exact h
  | some d =>
    refine ⟨by simp [putV, Act.put, h.len], fun t => ?_⟩
    have := h.rel t
    simp only [putV, Act.put, List.getD_eq_getElem?_getD, Array.getD_eq_getD_getElem?, List.getElem?_set, Array.getElem?_setIfInBounds] at this ⊢
    by_cases e : d = t
    · subst e
      simp only [if_true]
      by_cases hd : d < fr.length
      · rw [if_pos hd, if_pos (by rw [← h.len]; exact hd)]
        exact hr
      · rw [if_neg hd, if_neg (by rw [← h.len]; exact hd)]
        exact .undef _
    · rw [if_neg e, if_neg e]
      exact this

theorem ofValue_rel {F : Fz} {v : V} {u : Value} (h : ofValue u = some v) : RelT F v u := by
  cases u with
  | bool b => simp [ofValue] at h; subst h; exact .bool b
  | int k n => simp [ofValue] at h; subst h; exact .int k n
  | string s => simp [ofValue] at h; subst h; exact .str s
  | pointer a => cases a <;> simp [ofValue] at h; subst h; exact .nilp
  | slice a n c =>
    cases a with
    | none =>
      by_cases hn : n = 0 ∧ c = 0
      · obtain ⟨rfl, rfl⟩ := hn
        simp [ofValue] at h
        subst h
        exact .nils
      · unfold ofValue at h
        split at h <;> simp_all
    | some a => simp [ofValue] at h
  | nilFunc => simp [ofValue] at h; subst h; exact .nilf
  | _ => simp [ofValue] at h
theorem ofValues_rel {F : Fz} : ∀ {us : List Value} {vs : List V}, ofValues us = some vs → RelTL F vs us
  | [], vs, h => by simp [ofValues] at h; subst h; exact ⟨rfl, by simp⟩
  | u :: us, vs, h => by
    simp only [ofValues, Option.bind_eq_some_iff, Option.map_eq_some_iff] at h
    obtain ⟨a, ha, as, has, rfl⟩ := h
    exact RelTL.cons (ofValue_rel ha) (ofValues_rel has)
theorem ofConst_rel {ρ : Rho} {F : Fz} {v : V} {u : Value} (h : ofConst u = some v) : Rel ρ F v u := by
  unfold ofConst at h
  split at h
  · rename_i cs
    simp only [Option.map_eq_some_iff] at h
    obtain ⟨a, ha, rfl⟩ := h
    have := ofValues_rel (F := F) ha
    have key : Rel ρ F (.agg a) (.agg cs.toList.toArray) := .agg _ _ this.1 this.rel.2 (fun v hv => V.cell_of_tree (this.trees v hv))
    simpa using key
  · exact .t (ofValue_rel h)
/-- the value of a constant is told by its cells -/
theorem ofConst_cells {v : V} {u : Value} (h : ofConst u = some v) : (∀ x ∈ v.cells, x.tree = true) ∧ ∀ F, RelTL F v.cells u.cells.toList := by
  unfold ofConst at h
  split at h
  · rename_i cs
    simp only [Option.map_eq_some_iff] at h
    obtain ⟨a, ha, rfl⟩ := h
    exact ⟨(ofValues_rel (F := fun _ _ => none) ha).trees, fun F => by simpa [V.cells, Value.cells] using ofValues_rel ha⟩
  · rename_i hne
    have hr := fun F => ofValue_rel (F := F) h
    have hc : v.cells = [v] := by
      have := (hr (fun _ _ => none)).tree
      cases v <;> simp_all [V.cells, V.tree]
    have hu : u.cells = #[u] := by cases u <;> simp_all [Value.cells]
    rw [hc, hu]
    refine ⟨fun x hx => ?_, fun F => RelTL.cons (hr F) ⟨rfl, by simp⟩⟩
    simp at hx
    subst hx
    exact (hr (fun _ _ => none)).tree

section
variable {P : Program} {ρ : Rho} {F : Fz} {H : Heap} {w : World} {fr : List V} {a : Act}

theorem ev_rel (h : FrOk ρ F fr a.tmps) {x : Operand} {y : Opd} (hc : compOpd x = some y) : Rel ρ F (ev fr y) (a.eval x) := by
  cases x with
  | tmp t => simp [compOpd] at hc; subst hc; exact h.rel t
  | const v =>
    simp only [compOpd, Option.map_eq_some_iff] at hc
    obtain ⟨c, hc, rfl⟩ := hc
    exact ofConst_rel hc
  | func f => simp [compOpd] at hc; subst hc; exact .t (.fn f)
  | global g => simp [compOpd] at hc
theorem evs_rel (h : FrOk ρ F fr a.tmps) : ∀ {xs : List Operand} {ys : List Opd}, compOpds xs = some ys → RelL ρ F (evs fr ys) (xs.map a.eval)
  | [], ys, hc => by simp [compOpds] at hc; subst hc; exact RelL.nil
  | x :: xs, ys, hc => by
    simp only [compOpds, Option.bind_eq_some_iff, Option.map_eq_some_iff] at hc
    obtain ⟨b, hb, bs, hbs, rfl⟩ := hc
    exact RelL.cons (ev_rel h hb) (evs_rel h hbs)

/-- what an operation leaves -/
structure Step (ρ : Rho) (F : Fz) (H : Heap) (w : World) (v : V) (e : Eff) (u : Value) (w' : World) : Prop where
  ok : HOk (e.heap H)
  ex : ∃ ρ' F', Ext ρ F w ρ' F' w' ∧ Sim ρ' F' (e.heap H) w' ∧ Rel ρ' F' v u ∧ ∀ l, e = .new l → ∀ b L r, ρ' b L = some r → b < H.length → ρ b L = some r
theorem Step.pure (hok : HOk H) (hs : Sim ρ F H w) {v : V} {u : Value} (hr : Rel ρ F v u) : Step ρ F H w v (.new []) u w :=
  ⟨by simpa [Eff.heap] using hok, ρ, F, .refl _ _ _, by simpa [Eff.heap] using hs, hr, fun _ _ _ _ _ h _ => h⟩
theorem add_loc {ρ : Rho} {n L0 : Nat} {r0 : RB} : ∀ b L r, ρ.add n L0 r0 b L = some r → b < n → ρ b L = some r := by
  intro b L r h hb
  unfold Rho.add at h
  rw [if_neg (by omega)] at h
  exact h

def Good (P : Program) (o : Oper) (a : Act) (w : World) (R : Value → World → Prop) : Prop :=
  ∀ (K : Act → World → Prop) (Q : Exit → Act → World → Prop), (∀ u w', R u w' → K (a.put o.dst u) w') → o.wp P a w K Q
theorem Good.value {o : Oper} {R : Value → World → Prop} {u : Value} {w' : World} (h : (execOp a.eval o).run P w = .ok (.value u) w') (hr : R u w') : Good P o a w R := by
  intro K Q hK
  unfold Oper.wp
  rw [h]
  exact hK u w' hr
theorem Good.skip {o : Oper} {R : Value → World → Prop} {w' : World} (h : (execOp a.eval o).run P w = .ok .skip w') (hr : R Go.undef w') : Good P o a w R := by
  intro K Q hK
  unfold Oper.wp
  rw [h]
  exact hK _ w' hr
theorem Good.enter {o : Oper} {R : Value → World → Prop} {f : FuncId} {args : Array Value} (h : (execOp a.eval o).run P w = .ok (.enter f args) w) (hr : Calls P f args w fun e w' => ∃ u, e = .returned u ∧ R u w') : Good P o a w R := by
  intro K Q hK
  unfold Oper.wp
  rw [h]
  refine hr.mono fun e w' h => ?_
  obtain ⟨u, rfl, h⟩ := h
  exact hK u w' h

/-! ### Inversion: what a value of a form stands for -/
theorem Rel.int_inv {k : IntKind} {n : Int} {u : Value} (h : Rel ρ F (.int k n) u) : u = .int k n := by
  cases h with
  | t h => cases h; rfl
theorem Rel.bool_inv {b : Bool} {u : Value} (h : Rel ρ F (.bool b) u) : u = .bool b := by
  cases h with
  | t h => cases h; rfl
theorem Rel.str_inv {s : ByteArray} {u : Value} (h : Rel ρ F (.str s) u) : u = .string s := by
  cases h with
  | t h => cases h; rfl
theorem Rel.ptr_inv {b L i o : Nat} {u : Value} (h : Rel ρ F (.ptr b L i o) u) : ∃ r, ρ b L = some r ∧ u = .pointer (some ⟨r.blk, i * r.z + o, .none⟩) := by
  cases h with
  | t h => cases h
  | ptr _ _ _ _ r h => exact ⟨r, h, rfl⟩
theorem Rel.sl_inv {z b L o n : Nat} {u : Value} (h : Rel ρ F (.sl z b L o n) u) : ∃ r c, ρ b L = some r ∧ r.z = z ∧ n ≤ c ∧ o + c ≤ r.cap ∧ r.cap ≤ maxLen ∧ u = .slice (some ⟨r.blk, o * r.z, .none⟩) n c := by
  cases h with
  | t h => cases h
  | sl _ _ _ _ c r h h1 h2 h3 => exact ⟨r, c, h, rfl, h1, h2, h3, rfl⟩
theorem Rel.agg_inv {cs : List V} {u : Value} (h : Rel ρ F (.agg cs) u) : ∃ us : List Value, u = .agg us.toArray ∧ RelL ρ F cs us ∧ ∀ v ∈ cs, v.cell = true := by
  cases h with
  | t h => cases h
  | agg _ us h1 h2 h3 => exact ⟨us, rfl, ⟨h1, h2⟩, h3⟩
theorem Rel.tup_inv {cs : List V} {u : Value} (h : Rel ρ F (.tup cs) u) : ∃ us : List Value, u = .tuple us.toArray ∧ RelL ρ F cs us := by
  cases h with
  | t h => cases h
  | tup _ us h1 h2 => exact ⟨us, rfl, ⟨h1, h2⟩⟩
theorem Rel.fn_inv {f : FuncId} {cs : List V} {u : Value} (h : Rel ρ F (.fn f cs) u) : ∃ us : List Value, u = .func (.func f) #[] us.toArray ∧ RelL ρ F cs us := by
  cases h with
  | t h => cases h; exact ⟨[], rfl, RelL.nil⟩
  | fn _ _ us h1 h2 => exact ⟨us, rfl, ⟨h1, h2⟩⟩
theorem Rel.tptr_inv {cs : List V} {o : Nat} {u : Value} (h : Rel ρ F (.tptr cs o) u) : RelT F (.tptr cs o) u := h.tree rfl
theorem Rel.tsl_inv {z : Nat} {es : List (List V)} {u : Value} (h : Rel ρ F (.tsl z es) u) : RelT F (.tsl z es) u := h.tree rfl

/-! ### Loads -/
theorem addr_add (g o n : Nat) : (⟨g, o, .none⟩ : Addr).add n = ⟨g, o + n, .none⟩ := by unfold Addr.add; split <;> simp_all
theorem run_loadVar_one {t : TypeId} {d : TypeDesc} {ad : Addr} {u : Value} (hd : P.underlying t = some d) (hn : isAggD d = false) (hc : w.cell? ad = some u) : (loadVar t ad).run P w = .ok u w := by
  unfold loadVar isAgg
  cases d <;> simp_all [isAggD, run_underlying hd, run_load, Result.andThen]
theorem run_loadVar_agg {t : TypeId} {d : TypeDesc} {i : TypeInfo} {ad : Addr} {us : List Value} (hd : P.underlying t = some d) (hn : isAggD d = true) (hi : P.info? t = some i) (hl : us.length = i.size)
    (hc : ∀ (j : Nat) (u : Value), us[j]? = some u → w.cell? (ad.add j) = some u) : (loadVar t ad).run P w = .ok (.agg us.toArray) w := by
  have h := run_loadCells_list (P := P) w ad us hc
  rw [hl] at h
  have hs : (sizeOf t).run P w = .ok i.size w := by simp [sizeOf, typeInfo, hi, run_program]
  unfold loadVar isAgg
  cases d <;> simp_all [isAggD, run_underlying hd, Result.andThen]
theorem shapeOf_some {t : TypeId} {n : Option Nat} (h : shapeOf P t = some n) : ∃ d i, P.underlying t = some d ∧ P.info? t = some i ∧ (n = none ∧ isAggD d = false ∨ n = some i.size ∧ isAggD d = true) := by
  simp only [shapeOf, Option.bind_eq_some_iff, Option.map_eq_some_iff] at h
  obtain ⟨d, hd, i, hi, h⟩ := h
  refine ⟨d, i, hd, hi, ?_⟩
  split at h
  · rename_i e; exact .inr ⟨h.symm, e⟩
  · rename_i e; exact .inl ⟨h.symm, by simpa using e⟩
/-- a place whose cells stand for a list's values from o on -/
theorem load_cells {t : TypeId} {n : Option Nat} {g base o : Nat} {e : List V} {v : V} (hsh : shapeOf P t = some n) (hcl : ∀ v ∈ e, v.cell = true)
    (he : ∀ (j : Nat) (v : V), e[j]? = some v → ∃ u, w.cell? ⟨g, base + j, .none⟩ = some u ∧ Rel ρ F v u)
    (hv : cutV n o e = some v) :
    ∃ u, (loadVar t ⟨g, base + o, .none⟩).run P w = .ok u w ∧ Rel ρ F v u := by
  obtain ⟨d, i, hd, hi, ⟨rfl, hn⟩ | ⟨rfl, hn⟩⟩ := shapeOf_some hsh
  · obtain ⟨u, hu, hr⟩ := he o v hv
    exact ⟨u, run_loadVar_one hd hn hu, hr⟩
  · simp only [cutV] at hv
    split at hv
    · rename_i hle
      injection hv with hv
      subst hv
      have key : ∃ us : List Value, us.length = i.size ∧ (∀ (j : Nat) (u : Value), us[j]? = some u → w.cell? ⟨g, base + o + j, .none⟩ = some u) ∧ RelL ρ F ((e.drop o).take i.size) us := by
        refine ⟨(List.range i.size).map fun j => (w.cell? ⟨g, base + o + j, .none⟩).getD default, by simp, fun j u hu => ?_, by simp; omega, fun j v u hv hu => ?_⟩
        · have hj : j < i.size := by
            have := (List.getElem?_eq_some_iff.1 hu).1
            simpa using this
          simp only [List.getElem?_map, Option.map_eq_some_iff] at hu
          obtain ⟨j', hj', rfl⟩ := hu
          rw [List.getElem?_range hj] at hj'
          injection hj' with hj'
          subst hj'
          have hlt : o + j < e.length := by omega
          obtain ⟨u, hu, _⟩ := he (o + j) _ (List.getElem?_eq_getElem hlt)
          rw [← Nat.add_assoc] at hu
          rw [hu]; rfl
        · simp only [List.getElem?_map, Option.map_eq_some_iff] at hu
          obtain ⟨j', hj', rfl⟩ := hu
          rw [List.getElem?_take] at hv
          split at hv
          · rename_i hj
            rw [List.getElem?_range hj] at hj'
            injection hj' with hj'
            subst hj'
            rw [List.getElem?_drop] at hv
            obtain ⟨u, hu, hr⟩ := he (o + j) v hv
            rw [← Nat.add_assoc] at hu
            rw [hu]
            exact hr
          · cases hv
      obtain ⟨us, h1, h2, h3⟩ := key
      refine ⟨.agg us.toArray, run_loadVar_agg hd hn hi h1 (fun j u hu => by rw [addr_add]; exact h2 j u hu), .agg _ _ h3.1 h3.2 (fun v hv => hcl v (List.mem_of_mem_drop (List.mem_of_mem_take hv)))⟩
    · cases hv
theorem ld_sound (hok : HOk H) (hs : Sim ρ F H w) {t : TypeId} {n : Option Nat} {x v : V} {u : Value} (hsh : shapeOf P t = some n) (hx : Rel ρ F x u) (hv : ldPl H n x = some v) :
    ∃ ad u', u = .pointer (some ad) ∧ (loadVar t ad).run P w = .ok u' w ∧ Rel ρ F v u' := by
  cases x with
  | ptr b L i o =>
    obtain ⟨r, hr, rfl⟩ := hx.ptr_inv
    simp only [ldPl, Option.bind_eq_some_iff] at hv
    obtain ⟨k, hk, hv⟩ := hv
    split at hv
    · rename_i hL
      subst hL
      simp only [Option.bind_eq_some_iff] at hv
      obtain ⟨e, he, hv⟩ := hv
      obtain ⟨cur, hc, hsz, hz, hcap, hb⟩ := hs.blk b k r hk hr
      obtain ⟨u', h1, h2⟩ := load_cells (P := P) (w := w) (ρ := ρ) (F := F) (g := r.blk) (base := i * r.z) (o := o) hsh ((hok.get hk).cell e (List.mem_of_getElem? he)) (fun j v hv => by
        obtain ⟨u, hu, hr⟩ := hb i e j v he hv
        exact ⟨u, by rw [cell_of hc, hz]; exact hu, hr⟩) hv
      exact ⟨_, u', rfl, h1, h2⟩
    · cases hv
  | tptr e o =>
    cases hx.tptr_inv with
    | tptr _ _ g base us h1 h2 =>
      obtain ⟨u', h3, h4⟩ := load_cells (P := P) (w := w) (ρ := ρ) (F := F) (g := g) (base := base) (o := o) hsh (fun v hv => by
        obtain ⟨j, hj⟩ := List.mem_iff_getElem?.1 hv
        exact V.cell_of_tree (h2 j v hj).tree) (fun j v hv => ⟨us j, hs.frz _ _ _ (h1 j v hv), .t (h2 j v hv)⟩) hv
      exact ⟨_, u', rfl, h3, h4⟩
  | _ => simp [ldPl] at hv

/-! ### Stores -/
theorem RelB.setRow {z i o : Nat} {es : List (List V)} {e : List V} {cur : Array Value} {cs : List V} {us : List Value} (hb : RelB ρ F z es cur) (hz : ∀ e ∈ es, e.length = z) (he : es[i]? = some e) (hle : o + cs.length ≤ e.length)
    (hr : RelL ρ F cs us) : RelB ρ F z (es.set i (e.take o ++ cs ++ e.drop (o + cs.length))) (cur.toList.take (i * z + o) ++ us ++ cur.toList.drop (i * z + o + us.length)).toArray := by
  have hi : i < es.length := (List.getElem?_eq_some_iff.1 he).1
  have hez := hz e (List.mem_of_getElem? he)
  have hcl : ∀ m, m ≤ cur.size → (cur.toList.take m).length = m := fun m hm => by simp; omega
  -- every cell of the block is there
  have hall : ∀ i' j, i' < es.length → j < z → i' * z + j < cur.size := by
    intro i' j hi' hj
    obtain ⟨v, hv⟩ : ∃ v, (es[i'])[j]? = some v := ⟨_, List.getElem?_eq_getElem (by rw [hz _ (List.getElem_mem hi')]; exact hj)⟩
    obtain ⟨u, hu, _⟩ := hb i' es[i'] j v (List.getElem?_eq_getElem hi') hv
    exact (Array.getElem?_eq_some_iff.1 hu).1
  intro i' e' j v he' hv
  have hul := hr.1
  rw [List.getElem?_set] at he'
  have hget : ∀ p, (cur.toList.take (i * z + o) ++ us ++ cur.toList.drop (i * z + o + us.length))[p]? = if p < i * z + o then cur[p]? else if p < i * z + o + us.length then us[p - (i * z + o)]? else cur[p]? := by
    intro p
    have hio : i * z + o ≤ cur.size := by
      by_cases hzz : z = 0
      · have : cs.length = 0 := by omega
        subst hzz; omega
      · by_cases ho : o = 0
        · subst ho
          have := hall i 0 hi (by omega); omega
        · have := hall i (o - 1) hi (by omega); omega
    have htl : (cur.toList.take (i * z + o)).length = i * z + o := hcl _ hio
    by_cases h1 : p < i * z + o
    · rw [if_pos h1, List.append_assoc, List.getElem?_append_left (by omega), List.getElem?_take, if_pos h1]; simp
    · rw [if_neg h1]
      by_cases h2 : p < i * z + o + us.length
      · rw [if_pos h2, List.getElem?_append_left (by simp [htl]; omega), List.getElem?_append_right (by omega), htl]
      · rw [if_neg h2, List.getElem?_append_right (by simp [htl]; omega)]
        simp only [List.length_append, htl, List.getElem?_drop, Array.getElem?_toList]
        congr 1; omega
  simp only [List.getElem?_toArray, hget]
  split at he'
  · rename_i hii
    subst hii
    simp only [hi, if_true, Option.some.injEq] at he'
    subst he'
    by_cases h1 : j < o
    · rw [if_pos (by omega)]
      rw [List.append_assoc, List.getElem?_append_left (by simp; omega), List.getElem?_take, if_pos h1] at hv
      exact hb i e j v he hv
    · rw [if_neg (by omega)]
      by_cases h2 : j < o + cs.length
      · rw [if_pos (by omega)]
        rw [List.getElem?_append_left (by simp; omega), List.getElem?_append_right (by simp; omega)] at hv
        simp only [List.length_take] at hv
        rw [show min o e.length = o by omega] at hv
        obtain ⟨u, hu, hrel⟩ := hr.get hv
        exact ⟨u, by rw [← hu]; congr 1; omega, hrel⟩
      · rw [if_neg (by omega)]
        rw [List.getElem?_append_right (by simp; omega)] at hv
        simp only [List.length_append, List.length_take, List.getElem?_drop] at hv
        rw [show o + cs.length + (j - (min o e.length + cs.length)) = j by omega] at hv
        exact hb i e j v he hv
  · rename_i hne
    have hi' := (List.getElem?_eq_some_iff.1 he').1
    have hj : j < z := by
      have := (List.getElem?_eq_some_iff.1 hv).1
      rwa [hz e' (List.mem_of_getElem? he')] at this
    have hout : ¬ (i * z + o ≤ i' * z + j ∧ i' * z + j < i * z + o + us.length) := by
      rintro ⟨ha, hb'⟩
      have h1 : i' < i + 1 := Nat.lt_of_not_le fun hle => by
        have : (i + 1) * z ≤ i' * z := Nat.mul_le_mul_right _ hle
        rw [Nat.add_mul] at this; omega
      have h2 : i < i' + 1 := Nat.lt_of_not_le fun hle => by
        have : (i' + 1) * z ≤ i * z := Nat.mul_le_mul_right _ hle
        rw [Nat.add_mul] at this; omega
      omega
    by_cases h1 : i' * z + j < i * z + o
    · rw [if_pos h1]; exact hb i' e' j v he' hv
    · rw [if_neg h1, if_neg (by omega)]; exact hb i' e' j v he' hv
end
end Go.AM
