/- One operation of the executor against the model's: boxes, slices that are made. -/
import Derived.Test.YtdgineiemjplhaaAmOpsF
set_option linter.unusedVariables false
set_option linter.unusedSimpArgs false
namespace Go.AM
open Go Go.RowKit
section
variable {P : Program} {ρ : Rho} {F : Fz} {H : Heap} {w : World} {fr : List V} {a : Act}

theorem box_sound (hok : HOk H) (hs : Sim ρ F H w) {t : TypeId} {x : V} {u : Value} (hx : Rel ρ F x u) (hc : x.cells.all V.cell = true) :
    ∃ w', (Instr.box t u).run P w = .ok (.pointer (some ⟨w.heap.size, 0, none⟩)) w' ∧
      Step ρ F H w (.ptr H.length 1 0 0) (.new [{ z := x.cells.length, es := [x.cells], fz := 0, box := true, flat := x.cells.all V.flat }]) (.pointer (some ⟨w.heap.size, 0, none⟩)) w' := by
  have hr := hx.cells hc
  have hsz : u.cells.size = x.cells.length := by have := hr.1; simp at this; omega
  obtain ⟨hE, hS⟩ := hs.alloc (w' := w.alloc (.cells u.cells t)) (k := { z := x.cells.length, es := [x.cells], fz := 0, box := true, flat := x.cells.all V.flat }) (cap := 1) rfl rfl rfl rfl (by simp [hsz]) (by simp) (by
    intro i e j v he hv
    cases i with
    | zero =>
      simp at he
      subst he
      obtain ⟨y, hy, hrel⟩ := hr.get hv
      exact ⟨y, by simpa using hy, hrel⟩
    | succ i => simp at he) (fun h0 => by simp at h0)
  refine ⟨w.alloc (.cells u.cells t), by simp [Instr.box, newVar, newRow], ?_, _, F, hE, hS, ?_, fun _ _ => add_loc⟩
  · refine hok.append (HOk.one ⟨by simp, ?_, by simp, by simp, ?_⟩)
    · intro e he v hv
      simp at he
      subst he
      exact List.all_eq_true.1 hc v hv
    · intro hf e he v hv
      simp at he
      subst he
      exact List.all_eq_true.1 hf v hv
  · have := Rel.ptr (F := F) H.length 1 0 0 _ (Rho.add_same ρ H.length 1 ⟨w.heap.size, x.cells.length, t, 1⟩)
    simpa using this

theorem madeCells_rel {zv : Value} {c : V} {n : Nat} (hc : ofConst zv = some c) (hn : c.cells.length ≠ 0) : RelL ρ F (List.replicate n c.cells).flatten (madeCells zv.cells (n * c.cells.length)).toList ∧ RelB ρ F c.cells.length (List.replicate n c.cells) (madeCells zv.cells (n * c.cells.length)) := by
  obtain ⟨ht, hr⟩ := ofConst_cells hc
  have hr := hr F
  have hsz : zv.cells.size = c.cells.length := by have := hr.1; simp at this; omega
  have hget : ∀ p, p < n * c.cells.length → (madeCells zv.cells (n * c.cells.length))[p]? = zv.cells[p % c.cells.length]? := by
    intro p hp
    have hm : p % c.cells.length < zv.cells.size := by rw [hsz]; exact Nat.mod_lt _ (by omega)
    simp only [madeCells, Array.getElem?_map, Array.getElem?_range, hp, if_true, Option.map_some, hsz]
    rw [Array.getElem?_eq_getElem hm, getElem!_pos zv.cells _ hm]
  have hB : RelB ρ F c.cells.length (List.replicate n c.cells) (madeCells zv.cells (n * c.cells.length)) := by
    intro i e j v he hv
    have hi : i < n := by have := (List.getElem?_eq_some_iff.1 he).1; simpa using this
    rw [List.getElem?_replicate, if_pos hi] at he
    injection he with he
    subst he
    have hj := (List.getElem?_eq_some_iff.1 hv).1
    have hlt : i * c.cells.length + j < n * c.cells.length := by
      have : (i + 1) * c.cells.length ≤ n * c.cells.length := Nat.mul_le_mul_right _ hi
      rw [Nat.add_mul] at this
      omega
    obtain ⟨y, hy, hrel⟩ := (hr.rel (ρ := ρ)).get hv
    refine ⟨y, ?_, hrel⟩
    rw [hget _ hlt, Nat.mul_comm i, Nat.mul_add_mod, Nat.mod_eq_of_lt hj]
    simpa using hy
  refine ⟨?_, hB⟩
  -- the flat row
  have hflat : ∀ (m : Nat) (p : Nat), p < m * c.cells.length → ((List.replicate m c.cells).flatten)[p]? = c.cells[p % c.cells.length]? := by
    intro m
    induction m with
    | zero => intro p hp; simp at hp
    | succ m ih =>
      intro p hp
      rw [List.replicate_succ, List.flatten_cons]
      by_cases h : p < c.cells.length
      · rw [List.getElem?_append_left h, Nat.mod_eq_of_lt h]
      · rw [List.getElem?_append_right (by omega), ih _ (by rw [Nat.add_mul] at hp; omega)]
        congr 1
        rw [← Nat.mod_eq_sub_mod (by omega)]
  have hfl : ((List.replicate n c.cells).flatten).length = n * c.cells.length := by simp
  refine ⟨by rw [hfl]; simp [size_madeCells], fun p v u hv hu => ?_⟩
  have hp : p < n * c.cells.length := by rw [← hfl]; exact (List.getElem?_eq_some_iff.1 hv).1
  rw [hflat n p hp] at hv
  have hu' : (madeCells zv.cells (n * c.cells.length))[p]? = some u := by simpa using hu
  rw [hget p hp] at hu'
  exact .t (hr.2 _ v u hv (by simpa using hu'))

theorem mks_sound (hok : HOk H) (hs : Sim ρ F H w) {t el : TypeId} {ti : TypeInfo} {zv : Value} {c : V} {l : Int} (ht : P.underlying t = some (.slice el)) (hi : P.info? el = some ti) (hsz : ti.size = c.cells.length) (hz0 : ti.zero = some zv) (hc : ofConst zv = some c) (hn : c.cells.length ≠ 0)
    (h0 : 0 ≤ l) (hroom : roomB l.toNat ti.bytes = true) :
    ∃ w', (Instr.makeSlice t (.int .i64 l) (.int .i64 l)).run P w = .ok (.slice (some ⟨w.heap.size, 0, none⟩) l.toNat l.toNat) w' ∧
      Step ρ F H w (.sl c.cells.length H.length l.toNat 0 l.toNat) (.new [{ z := c.cells.length, es := List.replicate l.toNat c.cells, fz := 0, box := false, flat := c.cells.all V.flat }]) (.slice (some ⟨w.heap.size, 0, none⟩) l.toNat l.toNat) w' := by
  have hr : l.toNat * ti.bytes ≤ 140737488351232 ∧ l.toNat ≤ 140737488351232 := by simpa [roomB] using hroom
  have hlt : (l.toNat : Int) = l := Int.toNat_of_nonneg h0
  have hrun := run_make (P := P) w t el ti zv ht hi hz0 .i64 .i64 l l h0 (Int.le_refl _) (by rw [← hlt, Int.mul_comm]; have := hr.1; omega) (by omega)
  rw [hsz] at hrun
  obtain ⟨ht', _⟩ := ofConst_cells hc
  obtain ⟨hE, hS⟩ := hs.alloc (w' := w.alloc (.cells (madeCells zv.cells (l.toNat * c.cells.length)) el)) (k := { z := c.cells.length, es := List.replicate l.toNat c.cells, fz := 0, box := false, flat := c.cells.all V.flat }) (cap := l.toNat) rfl rfl rfl rfl
    (by simp [size_madeCells]) (by simp) (madeCells_rel (ρ := ρ) (F := F) (n := l.toNat) hc hn).2 (fun _ => hn)
  refine ⟨_, hrun, hok.append (HOk.one ⟨?_, ?_, fun h => (by cases h), ?_, ?_⟩), _, F, hE, hS, ?_, fun _ _ => add_loc⟩
  · intro e he; rw [List.eq_of_mem_replicate he]
  · intro e he v hv; rw [List.eq_of_mem_replicate he] at hv; exact V.cell_of_tree (ht' v hv)
  · intro _ e he v hv; rw [List.eq_of_mem_replicate he] at hv; exact ht' v hv
  · intro hf e he v hv; rw [List.eq_of_mem_replicate he] at hv; exact List.all_eq_true.1 hf v hv
  · have := Rel.slF (F := F) H.length (List.replicate l.toNat c.cells).length 0 l.toNat _ (Rho.add_same ρ H.length _ ⟨w.heap.size, c.cells.length, el, l.toNat⟩) (by simp) (by simp [maxLen]; omega)
    simpa using this

theorem chunk_get {z : Nat} : ∀ {n : Nat} {l : List V} {i : Nat} {e : List V}, (chunk z n l)[i]? = some e → i < n ∧ e = (l.drop (i * z)).take z
  | 0, l, i, e, h => by simp [chunk] at h
  | n + 1, l, i, e, h => by
    cases i with
    | zero => simp [chunk] at h; subst h; simp
    | succ i =>
      simp only [chunk, List.getElem?_cons_succ] at h
      obtain ⟨h1, h2⟩ := chunk_get h
      refine ⟨by omega, ?_⟩
      rw [h2, List.drop_drop]
      congr 2
      rw [Nat.add_mul]
      omega
theorem chunk_len {z : Nat} : ∀ (n : Nat) (l : List V), (chunk z n l).length = n
  | 0, l => rfl
  | n + 1, l => by simp [chunk, chunk_len n]
theorem fillV_len : ∀ {ps : List (Nat × Nat × V)} {cells cs : List V}, fillV cells ps = some cs → cs.length = cells.length
  | [], cells, cs, h => by simp [fillV] at h; rw [h]
  | (o, s, v) :: ps, cells, cs, h => by
    simp only [fillV] at h
    split at h
    · rename_i hc
      simp only [Bool.and_eq_true, decide_eq_true_eq] at hc
      rw [fillV_len h]
      simp
      omega
    · cases h
theorem Eff.frz_heap (H : Heap) (fs : List (Nat × Nat)) (l : List Blk) : (Eff.frz H fs l).heap H = freezeH H fs ++ l := by
  cases fs <;> rfl
theorem snapL_len {H : Heap} : ∀ {cs cs' : List V} {fs : List (Nat × Nat)}, snapL H cs = some (cs', fs) → cs'.length = cs.length
  | [], cs', fs, h => by simp [snapL] at h; rw [← h.1]
  | v :: vs, cs', fs, h => by
    simp only [snapL, Option.bind_eq_some_iff, Option.map_eq_some_iff] at h
    obtain ⟨a, ha, r, hr, h⟩ := h
    injection h with h1 h2
    subst h1
    simp [snapL_len hr]

theorem bsl_sound (hok : HOk H) (hs : Sim ρ F H w) (hf : FrOk ρ F fr a.tmps) {t el : TypeId} {ti : TypeInfo} {zv : Value} {c : V} {len : Nat} {ps : Array (Nat × Operand)} {qs : List (Nat × Nat × Opd)} {cs : List V} {r : List V × List (Nat × Nat)} (ht : P.underlying t = some (.slice el)) (hi : P.info? el = some ti) (hsz : ti.size = c.cells.length) (hz0 : ti.zero = some zv) (hc : ofConst zv = some c)
    (hn : c.cells.length ≠ 0) (hlim : ¬ len * c.cells.length > 2 ^ 24) (hq : compParts (fun i => some (i * c.cells.length, c.cells.length)) ps.toList = some qs) (hfill : fillV ((List.replicate len c.cells).flatten) (qs.map fun p => (p.1, p.2.1, ev fr p.2.2)) = some cs) (hcl : cs.all V.cell = true) (hsn : snapL H cs = some r) :
    ∃ w', (Instr.buildSlice t len (ps.map fun (i, x) => (i, a.eval x))).run P w = .ok (.slice (some ⟨w.heap.size, 0, none⟩) len len) w' ∧
      Step ρ F H w (.sl c.cells.length H.length len 0 len) (.frz H r.2 [{ z := c.cells.length, es := chunk c.cells.length len r.1, fz := 0, box := false, flat := r.1.all V.flat }]) (.slice (some ⟨w.heap.size, 0, none⟩) len len) w' := by
  obtain ⟨arr, e1, e2⟩ := fill_sound (place' := fun i => some (i * c.cells.length, c.cells.length)) hf (fun i p hp => hp) hq hfill (madeCells_rel (ρ := ρ) (F := F) (n := len) hc hn).1
  obtain ⟨F1, hE1, hS1, hT1⟩ := snapL_sound hs hok e2 hsn
  have pm : (ps.map fun (i, x) => (i, a.eval x)).toList = ps.toList.map fun p => (p.1, a.eval p.2) := by simp
  have hrun : (Instr.buildSlice t len (ps.map fun (i, x) => (i, a.eval x))).run P w = .ok (.slice (some ⟨w.heap.size, 0, none⟩) len len) (w.alloc (.cells arr el)) := by
    have hl2 : ¬ 16777216 < len * c.cells.length := by omega
    by_cases h0 : len * c.cells.length = 0
    · have hmk : madeCells zv.cells (len * c.cells.length) = #[] := by rw [h0]; simp [madeCells, Array.range_zero']
      rw [hmk] at e1
      have hmk2 : ∀ zz : Array Value, (Array.range (len * c.cells.length)).map (fun x => zz[x % zz.size]!) = #[] := fun zz => by rw [h0]; simp [Array.range_zero']
      simp only [Instr.buildSlice, Sem.run_bind, run_underlying ht, Result.andThen_ok, sizeOf, typeInfo, run_program, hi, Sem.run_pure, hsz, Sem.run_ite, h0, if_true, pm]
      simp [e1, newRow, Array.range_zero']
    · have e1' := e1
      unfold madeCells at e1'
      simp only [Instr.buildSlice, Sem.run_bind, run_underlying ht, Result.andThen_ok, sizeOf, typeInfo, run_program, hi, Sem.run_pure, hsz, Sem.run_ite, h0, if_false, pm, zeroValue, hz0, gt_iff_lt, show (2 : Nat) ^ 24 = 16777216 from rfl, hl2]
      simp [e1', newRow]
  have hl : r.1.length = len * c.cells.length := by
    rw [snapL_len hsn, fillV_len hfill]
    simp
  have hel : ∀ (i : Nat) (e : List V), (chunk c.cells.length len r.1)[i]? = some e → i < len ∧ e.length = c.cells.length ∧ ∀ (j : Nat) (v : V), e[j]? = some v → r.1[i * c.cells.length + j]? = some v := by
    intro i e he
    obtain ⟨h1, rfl⟩ := chunk_get he
    have : (i + 1) * c.cells.length ≤ len * c.cells.length := Nat.mul_le_mul_right _ h1
    rw [Nat.add_mul] at this
    refine ⟨h1, by simp; omega, fun j v hv => ?_⟩
    rw [List.getElem?_take] at hv
    split at hv
    · rwa [List.getElem?_drop] at hv
    · cases hv
  have hsub : ∀ e ∈ chunk c.cells.length len r.1, ∀ v ∈ e, v ∈ r.1 := by
    intro e he v hv
    obtain ⟨i, hi⟩ := List.mem_iff_getElem?.1 he
    obtain ⟨j, hj⟩ := List.mem_iff_getElem?.1 hv
    exact List.mem_of_getElem? ((hel i e hi).2.2 j v hj)
  have hal : arr.size = len * c.cells.length := by have := hT1.1; simp at this; omega
  obtain ⟨hE, hS⟩ := hS1.alloc (w' := w.alloc (.cells arr el)) (k := { z := c.cells.length, es := chunk c.cells.length len r.1, fz := 0, box := false, flat := r.1.all V.flat }) (cap := len) rfl rfl rfl rfl hal (by simp [chunk_len]) (by
    intro i e j v he hv
    obtain ⟨y, hy, hrel⟩ := (hT1.rel (ρ := ρ)).get ((hel i e he).2.2 j v hv)
    exact ⟨y, by simpa using hy, hrel⟩) (fun _ => hn)
  rw [freezeH_len] at hE hS
  refine ⟨_, hrun, ?_, _, F1, hE1.trans hE, by rw [Eff.frz_heap]; exact hS, ?_, fun _ _ => add_loc⟩
  · rw [Eff.frz_heap]
    refine (freezeH_ok hok).append (HOk.one ⟨?_, ?_, fun h => (by cases h), ?_, ?_⟩)
    · intro e he
      obtain ⟨i, hi⟩ := List.mem_iff_getElem?.1 he
      exact (hel i e hi).2.1
    · exact fun e he v hv => V.cell_of_tree (hT1.trees v (hsub e he v hv))
    · exact fun _ e he v hv => hT1.trees v (hsub e he v hv)
    · exact fun hfl e he v hv => List.all_eq_true.1 hfl v (hsub e he v hv)
  · have := Rel.slF (F := F1) H.length (chunk c.cells.length len r.1).length 0 len _ (Rho.add_same ρ H.length _ ⟨w.heap.size, c.cells.length, el, len⟩) (by simp) (by
      have : len ≤ len * c.cells.length := Nat.le_mul_of_pos_right _ (by omega)
      simp [maxLen]; omega)
    simpa [chunk_len] using this
end
end Go.AM
