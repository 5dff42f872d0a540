/- One operation of the executor against the model's: stores, structs, new memory. -/
import Derived.Test.YtdgineiemjplhaaAmOpsA
import Derived.Laws.Tables
set_option linter.unusedVariables false
set_option linter.unusedSimpArgs false
namespace Go.AM
open Go Go.RowKit
section
variable {P : Program} {ρ : Rho} {F : Fz} {H : Heap} {w : World} {fr : List V} {a : Act}

theorem oneC_eq (u : Value) : u.oneCell' = oneC u := by cases u <;> rfl
theorem freezeH_other : ∀ (fs : List (Nat × Nat)) (H : Heap) (b : Nat), fs.any (·.1 == b) = false → (freezeH H fs)[b]? = H[b]?
  | [], H, b, h => rfl
  | (x, m) :: fs, H, b, h => by
    simp only [List.any_cons, Bool.or_eq_false_iff, beq_eq_false_iff_ne] at h
    rw [freezeH, freezeH_other fs _ b h.2, List.getElem?_modify]
    simp [h.1]

/-- the cells of one place are written -/
theorem write_sound (hok : HOk H) (hs : Sim ρ F H w) {b i o : Nat} {k : Blk} {r : RB} {e : List V} {cs : List V} {us : List Value} (hk : H[b]? = some k) (hr : ρ b k.es.length = some r) (he : k.es[i]? = some e)
    (hle : o + cs.length ≤ e.length) (hfz : k.fz ≤ i) (hrel : RelL ρ F cs us) (hcl : ∀ v ∈ cs, v.cell = true) (htr : k.box = false → ∀ v ∈ cs, v.tree = true) :
    ∃ w' ρ', (storeCells ⟨r.blk, i * r.z + o, .none⟩ us).run P w = .ok () w' ∧ HOk (H.set b { k with es := k.es.set i (e.take o ++ cs ++ e.drop (o + cs.length)), flat := k.flat && cs.all V.flat }) ∧
      Ext ρ F w ρ' F w' ∧ Sim ρ' F (H.set b { k with es := k.es.set i (e.take o ++ cs ++ e.drop (o + cs.length)), flat := k.flat && cs.all V.flat }) w' := by
  obtain ⟨cur, hc, hsz, hz, hcap, hb⟩ := hs.blk b k r hk hr
  have hb : RelB ρ F k.z k.es cur := hb
  have hkk := hok.get hk
  have hi : i < k.es.length := (List.getElem?_eq_some_iff.1 he).1
  have hem := List.mem_of_getElem? he
  have hez := hkk.z e hem
  have hul := hrel.1
  have hfit : i * r.z + o + us.length ≤ cur.size := by
    rw [hsz, hz]
    have : (i + 1) * k.z ≤ r.cap * k.z := Nat.mul_le_mul_right _ (by omega)
    rw [Nat.add_mul] at this
    omega
  have hst := run_storeCells_at P r.blk (i * r.z + o) r.ty us 0 cur w hc (by simpa using hfit) (fun u hu => by
    obtain ⟨j, hj⟩ := List.mem_iff_getElem?.1 hu
    have hj' : j < cs.length := by rw [hul]; exact (List.getElem?_eq_some_iff.1 hj).1
    rw [oneC_eq]
    exact (hrel.2 j cs[j] u (List.getElem?_eq_getElem hj') hj).oneCell (hcl _ (List.getElem_mem hj')))
  simp only [Nat.add_zero] at hst
  have hnew : BlkOk { k with es := k.es.set i (e.take o ++ cs ++ e.drop (o + cs.length)), flat := k.flat && cs.all V.flat } := by
    have hmem : ∀ x ∈ k.es.set i (e.take o ++ cs ++ e.drop (o + cs.length)), x ∈ k.es ∨ x = e.take o ++ cs ++ e.drop (o + cs.length) := fun x hx => List.mem_or_eq_of_mem_set hx
    have hin : ∀ v ∈ e.take o ++ cs ++ e.drop (o + cs.length), v ∈ e ∨ v ∈ cs := by
      intro v hv
      rcases List.mem_append.1 hv with hv | hv
      · rcases List.mem_append.1 hv with hv | hv
        · exact .inl (List.mem_of_mem_take hv)
        · exact .inr hv
      · exact .inl (List.mem_of_mem_drop hv)
    refine ⟨fun x hx => ?_, fun x hx v hv => ?_, fun hbx => by simpa using hkk.box hbx, fun hbx x hx v hv => ?_, fun hf x hx v hv => ?_⟩
    · rcases hmem x hx with h | h
      · exact hkk.z x h
      · subst h
        simp only [List.length_append, List.length_take, List.length_drop]
        omega
    · rcases hmem x hx with h | h
      · exact hkk.cell x h v hv
      · subst h
        rcases hin v hv with h | h
        · exact hkk.cell e hem v h
        · exact hcl v h
    · rcases hmem x hx with h | h
      · exact hkk.tree hbx x h v hv
      · subst h
        rcases hin v hv with h | h
        · exact hkk.tree hbx e hem v h
        · exact htr hbx v h
    · simp only [Bool.and_eq_true, List.all_eq_true] at hf
      rcases hmem x hx with h | h
      · exact hkk.flat hf.1 x h v hv
      · subst h
        rcases hin v hv with h | h
        · exact hkk.flat hf.1 e hem v h
        · exact hf.2 v h
  have hlen' : (k.es.set i (e.take o ++ cs ++ e.drop (o + cs.length))).length = k.es.length := by simp
  have hle' : Rle ρ (ρ.add b k.es.length r) := Rho.add_le fun r' hr' => by rw [hr] at hr'; exact (Option.some.inj hr').symm
  obtain ⟨hE, hS⟩ := hs.write (k' := { k with es := k.es.set i (e.take o ++ cs ++ e.drop (o + cs.length)), flat := k.flat && cs.all V.flat })
    (cur' := (cur.toList.take (i * r.z + o) ++ us ++ cur.toList.drop (i * r.z + o + us.length)).toArray) hk hr hc (by simp; omega) rfl (by simp) (by simpa using hcap) (Nat.le_refl _)
    (fun o' x hx => by
      have hlt := hs.fz b k r o' x hk hr hx
      have hlt' : o' < i * r.z + o := by
        rw [hz]
        have := Nat.mul_le_mul_right k.z hfz
        omega
      simp only [List.getElem?_toArray]
      rw [List.append_assoc, List.getElem?_append_left (by simp; omega), List.getElem?_take, if_pos hlt']
      simp)
    (by
      have := RelB.setRow (o := o) hb hkk.z he hle hrel
      rw [hz]
      simp only [hlen']
      exact this.mono hle' (.refl _))
  exact ⟨_, _, hst, hok.set hnew b, hE, hS⟩

theorem storeVar_run {t : TypeId} {i : TypeInfo} {ad : Addr} {u : Value} {w' : World} (hi : P.info? t = some i) (hz : u.cells.size = i.size) (h : (storeCells ad u.cells.toList).run P w = .ok () w') : (storeVar t ad u).run P w = .ok () w' := by
  simp only [storeVar, sizeOf, typeInfo, Sem.run_bind, run_program, Result.andThen_ok, hi, Sem.run_pure, Sem.run_ite]
  rw [if_neg (by simp [hz])]
  simpa using h
theorem sizeP_some {t : TypeId} {n : Nat} (h : sizeP P t = some n) : ∃ i, P.info? t = some i ∧ i.size = n := by
  simp only [sizeP, Option.map_eq_some_iff] at h
  exact h
theorem st_sound (hok : HOk H) (hs : Sim ρ F H w) {t : TypeId} {n : Nat} {x y : V} {ux uy : Value} {e : Eff} (hn : sizeP P t = some n) (hx : Rel ρ F x ux) (hy : Rel ρ F y uy) (he : stPl H n x y = some e) :
    ∃ ad w', ux = .pointer (some ad) ∧ (storeVar t ad uy).run P w = .ok () w' ∧ Step ρ F H w .undef e Go.undef w' := by
  obtain ⟨ti, hti, hsz⟩ := sizeP_some hn
  cases x with
  | ptr b L i o =>
    obtain ⟨r, hr, rfl⟩ := hx.ptr_inv
    simp only [stPl, Option.bind_eq_some_iff] at he
    obtain ⟨k, hk, he⟩ := he
    split at he
    · rename_i hc
      simp only [Bool.and_eq_true, decide_eq_true_eq] at hc
      obtain ⟨⟨hL, hxn⟩, hfz⟩ := hc
      subst hL
      simp only [Option.bind_eq_some_iff] at he
      obtain ⟨el, hel, he⟩ := he
      split at he
      · rename_i hc2
        simp only [Bool.and_eq_true, decide_eq_true_eq] at hc2
        obtain ⟨hle, hcells⟩ := hc2
        have hrel := hy.cells hcells
        have hul : uy.cells.size = ti.size := by have := hrel.1; simp at this; omega
        split at he
        · rename_i hbox
          injection he with he
          subst he
          obtain ⟨w', ρ', h1, h2, h3, h4⟩ := write_sound (P := P) hok hs hk hr hel (cs := y.cells) (us := uy.cells.toList) (o := o) (by omega) hfz hrel (fun v hv => by simpa using List.all_eq_true.1 hcells v hv) (fun h => by simp [hbox] at h)
          refine ⟨_, w', rfl, storeVar_run hti hul h1, ?_⟩
          rw [hxn] at h2 h4
          exact ⟨h2, ρ', F, h3, h4, .undef _, fun l h => by cases h⟩
        · rename_i hbox
          simp only [Option.bind_eq_some_iff] at he
          obtain ⟨⟨cs, fs⟩, hsn, he⟩ := he
          split at he
          · cases he
          · rename_i hb
            injection he with he
            subst he
            obtain ⟨F1, hE1, hS1, hT1⟩ := snapL_sound hs hok hrel hsn
            have hb' : fs.any (·.1 == b) = false := eq_false_of_ne_true hb
            have hlen : cs.length = n := by rw [hT1.1]; simp; omega
            obtain ⟨w', ρ', h1, h2, h3, h4⟩ := write_sound (P := P) (freezeH_ok (fs := fs) hok) hS1 (b := b) (k := k) (by rw [freezeH_other _ _ _ hb']; exact hk) hr hel (cs := cs) (us := uy.cells.toList) (o := o) (by omega) hfz hT1.rel (fun v hv => V.cell_of_tree (hT1.trees v hv)) (fun _ => hT1.trees)
            rw [hlen] at h2 h4
            exact ⟨_, w', rfl, storeVar_run hti hul h1, h2, ρ', F1, hE1.trans h3, h4, .undef _, fun l h => by cases h⟩
      · cases he
    · cases he
  | _ => simp [stPl] at he

/-! ### Filling -/
theorem foldl_set (off : Nat) : ∀ (l : List Value) (s : Nat) (cells : Array Value), off + s + l.length ≤ cells.size →
    ((l.zipIdx s).foldl (fun cs p => cs.setIfInBounds (off + p.2) p.1) cells).toList = cells.toList.take (off + s) ++ l ++ cells.toList.drop (off + s + l.length)
  | [], s, cells, h => by simp
  | v :: l, s, cells, h => by
    simp only [List.length_cons] at h
    simp only [List.zipIdx_cons, List.foldl_cons]
    rw [foldl_set off l (s + 1) (cells.setIfInBounds (off + s) v) (by simp; omega)]
    simp only [Array.toList_setIfInBounds, List.length_cons]
    have hL : cells.toList.length = cells.size := by simp
    generalize cells.toList = L at hL ⊢
    rw [← hL] at h
    have e1 : L.set (off + s) v = L.take (off + s) ++ v :: L.drop (off + s + 1) := List.set_eq_take_append_cons_drop.trans (if_pos (by omega))
    rw [e1, ← Nat.add_assoc]
    have hlt : (L.take (off + s)).length = off + s := by rw [List.length_take]; omega
    have e2 : (L.take (off + s) ++ v :: L.drop (off + s + 1)).take (off + s + 1) = L.take (off + s) ++ [v] := by
      rw [List.take_append, hlt, show off + s + 1 - (off + s) = 1 by omega, List.take_of_length_le (by omega)]
      simp
    have e3 : (L.take (off + s) ++ v :: L.drop (off + s + 1)).drop (off + s + 1 + l.length) = L.drop (off + s + (l.length + 1)) := by
      rw [List.drop_append, hlt, List.drop_eq_nil_of_le (by omega), show off + s + 1 + l.length - (off + s) = l.length + 1 by omega]
      simp only [List.nil_append, List.drop_succ_cons, List.drop_drop]
      congr 1
      omega
    rw [e2, e3]
    simp
theorem fill_sound (h : FrOk ρ F fr a.tmps) {place place' : Nat → Option (Nat × Nat)} (hp : ∀ i p, place i = some p → place' i = some p) : ∀ {ps : List (Nat × Operand)} {qs : List (Nat × Nat × Opd)} {cells cs : List V} {arr : Array Value},
    compParts place ps = some qs → fillV cells (qs.map fun p => (p.1, p.2.1, ev fr p.2.2)) = some cs → RelL ρ F cells arr.toList →
    ∃ arr', Instr.fill place' arr (ps.map fun p => (p.1, a.eval p.2)) = some arr' ∧ RelL ρ F cs arr'.toList
  | [], qs, cells, cs, arr, hc, hf, hr => by
    simp [compParts] at hc
    subst hc
    simp [fillV] at hf
    subst hf
    exact ⟨arr, by simp [Instr.fill], hr⟩
  | (i, x) :: ps, qs, cells, cs, arr, hc, hf, hr => by
    simp only [compParts, Option.bind_eq_some_iff, Option.map_eq_some_iff] at hc
    obtain ⟨⟨o, s⟩, hpl, y, hy, rest, hrest, rfl⟩ := hc
    simp only [List.map_cons, fillV] at hf
    split at hf
    · rename_i hcc
      simp only [Bool.and_eq_true, decide_eq_true_eq] at hcc
      obtain ⟨⟨h1, h2⟩, h3⟩ := hcc
      have hx := (ev_rel h hy).cells h3
      have hsz : (a.eval x).cells.size = s := by have := hx.1; simp at this; omega
      have hal : arr.size = cells.length := by have := hr.1; simpa using this.symm
      have hset : ((a.eval x).cells.zipIdx.foldl (fun cs p => cs.setIfInBounds (o + p.2) p.1) arr).toList = arr.toList.take o ++ (a.eval x).cells.toList ++ arr.toList.drop (o + s) := by
        have := foldl_set o (a.eval x).cells.toList 0 arr (by simp; omega)
        rw [← Array.foldl_toList, Array.toList_zipIdx]
        simp only [Nat.add_zero] at this
        rw [this]
        simp [hsz]
      have hr' : RelL ρ F (cells.take o ++ (ev fr y).cells ++ cells.drop (o + s)) ((a.eval x).cells.zipIdx.foldl (fun cs p => cs.setIfInBounds (o + p.2) p.1) arr).toList := by
        rw [hset]
        exact ((hr.take o).append hx).append (hr.drop (o + s))
      obtain ⟨arr', e1, e2⟩ := fill_sound h hp hrest hf hr'
      refine ⟨arr', ?_, e2⟩
      simp only [List.map_cons, Instr.fill, hp i _ hpl]
      rw [if_neg (by simp; omega)]
      exact e1
    · cases hf
theorem zeroOf_some {t : TypeId} {z : List V} (h : zeroOf P t = some z) : ∃ i zv c, P.info? t = some i ∧ i.zero = some zv ∧ ofConst zv = some c ∧ z = c.cells := by
  simp only [zeroOf, Option.bind_eq_some_iff, Option.map_eq_some_iff] at h
  obtain ⟨i, hi, zv, hz, c, hc, rfl⟩ := h
  exact ⟨i, zv, c, hi, hz, hc, rfl⟩
theorem places_some : ∀ {fs : List Field}, fs.all (fun f => (P.info? f.type).isSome) = true → ∃ pl : List (Nat × Nat), fs.mapM (fun f : Field => (P.info? f.type).map fun i => (f.offset, i.size)) = some pl ∧ ∀ (i : Nat) (p : Nat × Nat), ((fs[i]?).bind fun f : Field => (sizeP P f.type).map fun s => (f.offset, s)) = some p → pl[i]? = some p
  | [], _ => ⟨[], by simp, by simp⟩
  | f :: fs, h => by
    simp only [List.all_cons, Bool.and_eq_true] at h
    obtain ⟨pl, h1, h2⟩ := places_some h.2
    obtain ⟨ti, hti⟩ := Option.isSome_iff_exists.1 h.1
    refine ⟨(f.offset, ti.size) :: pl, by simp [List.mapM_cons, hti, h1], fun i p hp => ?_⟩
    cases i with
    | zero => simpa [sizeP, hti] using hp
    | succ i => simpa using h2 i p (by simpa using hp)
theorem build_sound (h : FrOk ρ F fr a.tmps) {t : TypeId} {ps : Array (Nat × Operand)} {i : I} {v : V} {e : Eff} (hc : compOp P (.build t ps) = some i) {call : CallT} {pure : FuncId → Bool} (hx : execI call pure fr H i = some (v, e)) :
    e = .new [] ∧ ∃ u, (Instr.build t (ps.map fun (i, x) => (i, a.eval x))).run P w = .ok u w ∧ Rel ρ F v u := by
  have fin : ∀ {z : List V} {qs : List (Nat × Nat × Opd)} {place place' : Nat → Option (Nat × Nat)} {zv : Value} {c : V}, (∀ i p, place i = some p → place' i = some p) → ofConst zv = some c → z = c.cells → compParts place ps.toList = some qs →
      (fillV z (qs.map fun p => (p.1, p.2.1, ev fr p.2.2))).bind (fun cs => if cs.all V.cell then some (V.agg cs, Eff.new []) else none) = some (v, e) →
      e = .new [] ∧ ∃ arr', Instr.fill place' zv.cells (ps.toList.map fun p => (p.1, a.eval p.2)) = some arr' ∧ Rel ρ F v (.agg arr') := by
    intro z qs place place' zv c hp hzc hz hq hb
    simp only [Option.bind_eq_some_iff] at hb
    obtain ⟨cs, hcs, hb⟩ := hb
    split at hb
    · rename_i hall
      injection hb with hb
      injection hb with hb1 hb2
      subst hb1 hb2
      subst hz
      obtain ⟨arr', e1, e2⟩ := fill_sound (a := a) h hp hq hcs ((ofConst_cells hzc).2 F).rel
      refine ⟨rfl, arr', e1, ?_⟩
      have := Rel.agg (ρ := ρ) (F := F) cs arr'.toList e2.1 e2.2 (fun v hv => by simpa using List.all_eq_true.1 hall v hv)
      simpa using this
    · cases hb
  have pm : (ps.map fun (i, x) => (i, a.eval x)).toList = ps.toList.map fun p => (p.1, a.eval p.2) := by simp
  simp only [compOp] at hc
  split at hc
  · rename_i fs hu
    split at hc
    · cases hc
    · rename_i hall
      simp only [Option.bind_eq_some_iff, Option.map_eq_some_iff] at hc
      obtain ⟨z, hz, qs, hqs, rfl⟩ := hc
      obtain ⟨ti, zv, c, hti, hzv, hcc, hzz⟩ := zeroOf_some hz
      have hall0 : fs.all (fun f => (P.info? f.type).isSome) = true := by simpa only [Bool.not_eq_true', Bool.not_eq_false] using hall
      have hall' : fs.toList.all (fun f => (P.info? f.type).isSome) = true := by rw [← Array.all_toList] at hall0; exact hall0
      obtain ⟨pl, hpl, hpl2⟩ := places_some (P := P) hall'
      obtain ⟨rfl, arr', e1, e2⟩ := fin (place' := (pl.toArray[·]?)) (fun i p hp => by simpa using hpl2 i p (by simpa using hp)) hcc hzz hqs hx
      refine ⟨rfl, _, run_build w t _ arr' ?_, e2⟩
      rw [pm]
      simp only [Program.built, hti, hu, hzv, hpl]
      exact e1
  · rename_i n el hu
    simp only [Option.bind_eq_some_iff, Option.map_eq_some_iff] at hc
    obtain ⟨z, hz, s, hs, qs, hqs, rfl⟩ := hc
    obtain ⟨ti, zv, c, hti, hzv, hcc, hzz⟩ := zeroOf_some hz
    obtain ⟨te, hte, hse⟩ := sizeP_some hs
    obtain ⟨rfl, arr', e1, e2⟩ := fin (place' := fun i => some (i * te.size, te.size)) (fun i p hp => by rw [← hp, hse]) hcc hzz hqs hx
    refine ⟨rfl, _, run_build w t _ arr' ?_, e2⟩
    rw [pm]
    simp only [Program.built, hti, hu, hzv, hte]
    exact e1
  · cases hc
end
end Go.AM
