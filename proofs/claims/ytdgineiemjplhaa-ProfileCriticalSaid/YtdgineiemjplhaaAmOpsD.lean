/- One operation of the executor against the model's: places, parts, slices, new slices, appends. -/
import Derived.Test.YtdgineiemjplhaaAmOpsC
set_option linter.unusedVariables false
set_option linter.unusedSimpArgs false
namespace Go.AM
open Go Go.RowKit
section
variable {P : Program} {ρ : Rho} {F : Fz} {H : Heap} {w : World} {fr : List V} {a : Act}

theorem sizeOf_run {t : TypeId} {n : Nat} (h : sizeP P t = some n) : (sizeOf t).run P w = .ok n w := by
  obtain ⟨ti, hti, hsz⟩ := sizeP_some h
  simp [sizeOf, typeInfo, hti, hsz]
/-- a place further on -/
def further (n : Nat) : V → Option V
  | .ptr b L i o => some (.ptr b L i (o + n))
  | .tptr cs o => some (.tptr cs (o + n))
  | _ => none
theorem Rel.place {v v' : V} {u : Value} {n : Nat} (h : Rel ρ F v u) (hv : further n v = some v') :
    ∃ ad, u = .pointer (some ad) ∧ ad.spot = .none ∧ Rel ρ F v' (.pointer (some (ad.add n))) := by
  cases v with
  | ptr b L i o =>
    obtain ⟨r, hr, rfl⟩ := h.ptr_inv
    injection hv with hv
    subst hv
    refine ⟨_, rfl, rfl, ?_⟩
    rw [addr_add, Nat.add_assoc]
    exact .ptr b L i (o + n) r hr
  | tptr cs o =>
    cases h.tptr_inv with
    | tptr _ _ g base us h1 h2 =>
      injection hv with hv
      subst hv
      refine ⟨_, rfl, rfl, ?_⟩
      rw [addr_add, Nat.add_assoc]
      exact .t (.tptr cs (o + n) g base us h1 h2)
  | _ => cases hv
theorem fieldAt_run {t : TypeId} {fs : Array Field} {f : Nat} {fd : Field} {n : Nat} {ad : Addr} (ht : P.underlying t = some (.struct fs)) (hf : fs[f]? = some fd) (hs : sizeP P fd.type = some n) (hn : n ≠ 0) : (Instr.fieldAt t (.pointer (some ad)) f).run P w = .ok (.pointer (some (ad.add fd.offset))) w := by
  simp [Instr.fieldAt, run_underlying ht, hf, Instr.sureAddr, fieldPlace, sizeOf_run hs, hn]

theorem part_run {t : TypeId} {n : Option Nat} {cs : List V} {us : List Value} {o : Nat} {v : V} (hsh : shapeOf P t = some n) (hr : RelL ρ F cs us) (hcl : ∀ v ∈ cs, v.cell = true) (hv : cutV n o cs = some v) : ∃ u, (part t us.toArray o).run P w = .ok u w ∧ Rel ρ F v u := by
  obtain ⟨d, i, hd, hi, ⟨rfl, hn⟩ | ⟨rfl, hn⟩⟩ := shapeOf_some hsh
  · obtain ⟨u, hu, h⟩ := hr.get hv
    exact ⟨u, run_part_one hd hn (by simpa using hu), h⟩
  · simp only [cutV] at hv
    split at hv
    · rename_i hle
      injection hv with hv
      subst hv
      have hs : (sizeOf t).run P w = .ok i.size w := by simp [sizeOf, typeInfo, hi]
      refine ⟨.agg (us.toArray.extract o (o + i.size)), ?_, ?_⟩
      · cases d <;> simp_all [part, isAgg, isAggD, run_underlying hd]
      · have h2 := (hr.drop o).take i.size
        have e : us.toArray.extract o (o + i.size) = ((us.drop o).take i.size).toArray := by
          apply Array.toList_inj.1
          simp [List.extract_eq_take_drop]
        rw [e]
        exact .agg _ _ h2.1 h2.2 (fun v hv => hcl v (List.mem_of_mem_drop (List.mem_of_mem_take hv)))
    · cases hv

theorem indexAt_slice_run {t e : TypeId} {z : Nat} {k : IntKind} {i : Int} {ad : Addr} {len cap : Nat} (ht : P.underlying t = some (.slice e)) (hz : sizeP P e = some z) (h0 : ¬ i < 0) (h1 : i < len) :
    (Instr.indexAt t (.slice (some ad) len cap) (.int k i)).run P w = .ok (.pointer (some (ad.add (i.toNat * z)))) w := by
  have h0' : 0 ≤ i := by omega
  simp [Instr.indexAt, asIntOf, run_underlying ht, sizeOf_run hz, h0', h1]
theorem indexAt_array_run {t e : TypeId} {z m : Nat} {k : IntKind} {i : Int} {ad : Addr} (ht : P.underlying t = some (.array m e)) (hz : sizeP P e = some z) (h0 : ¬ i < 0) (h1 : i < m) :
    (Instr.indexAt t (.pointer (some ad)) (.int k i)).run P w = .ok (.pointer (some (ad.add (i.toNat * z)))) w := by
  have h0' : 0 ≤ i := by omega
  simp [Instr.indexAt, Instr.sureAddr, asIntOf, run_underlying ht, sizeOf_run hz, h0', h1]
theorem sl_at {z b L o m i : Nat} {u : Value} (h : Rel ρ F (.sl z b L o m) u) (hi : i < m) :
    ∃ ad cap, u = .slice (some ad) m cap ∧ Rel ρ F (.ptr b L (o + i) 0) (.pointer (some (ad.add (i * z)))) := by
  obtain ⟨r, _, hr, rfl, _, h1, h2, rfl⟩ := h.sl_inv
  refine ⟨_, _, rfl, ?_⟩
  rw [addr_add, ← Nat.add_mul]
  exact .ptr b L (o + i) 0 r hr
theorem tsl_at {z i : Nat} {es : List (List V)} {e : List V} {u : Value} (h : Rel ρ F (.tsl z es) u) (he : es[i]? = some e) : ∃ ad cap, u = .slice (some ad) es.length cap ∧ Rel ρ F (.tptr e 0) (.pointer (some (ad.add (i * z)))) := by
  cases h.tsl_inv with
  | tsl _ _ A cap g o us h1 h2 h3 h4 h5 h6 =>
    have hne : es ≠ [] := by rintro rfl; simp at he
    refine ⟨⟨g, o, .none⟩, cap, by rw [h3.2 hne], ?_⟩
    rw [addr_add]
    exact .t (.tptr e 0 g (o + i * z) (us i) (fun j v hv => h4 i e j v he hv) (fun j v hv => h5 i e j v he hv))

theorem idxs_run {t : TypeId} {s : ByteArray} {k : IntKind} {i : Int} {b : UInt8} (ht : P.underlying t = some .string) (h0 : ¬ i < 0) (hb : s[i.toNat]? = some b) : (Instr.index t (.string s) (.int k i)).run P w = .ok (.int .u8 b.toNat) w := by
  have h0' : 0 ≤ i := by omega
  simp [Instr.index, asIntOf, run_underlying ht, h0', hb]
theorem idxa_run {t e : TypeId} {m z : Nat} {k : IntKind} {i : Int} {us : List Value} {n : Option Nat} {cs : List V} {v : V} (ht : P.underlying t = some (.array m e)) (hz : sizeP P e = some z) (hsh : shapeOf P e = some n) (h0 : ¬ i < 0) (h1 : ¬ i ≥ m)
    (hr : RelL ρ F cs us) (hcl : ∀ v ∈ cs, v.cell = true) (hv : cutV n (i.toNat * z) cs = some v) : ∃ u, (Instr.index t (.agg us.toArray) (.int k i)).run P w = .ok u w ∧ Rel ρ F v u := by
  obtain ⟨u, h2, h3⟩ := part_run (P := P) (w := w) hsh hr hcl hv
  have h0' : 0 ≤ i := by omega
  have h1' : i < m := by omega
  refine ⟨u, ?_, h3⟩
  simp [Instr.index, asIntOf, run_underlying ht, sizeOf_run hz, h0', h1', h2]
theorem mmL_run {isMin : Bool} : ∀ {vs : List V} {us : List Value} {v r : V} {u : Value}, Rel ρ F v u → RelL ρ F vs us → mmL isMin v vs = some r → ∃ x, (us.foldlM (if isMin then Builtin.min2 else Builtin.max2) u).run P w = .ok x w ∧ Rel ρ F r x
  | [], us, v, r, u, hv, hs, h => by
    simp [mmL] at h
    subst h
    have : us = [] := by cases us with | nil => rfl | cons a l => have := hs.1; simp at this
    subst this
    exact ⟨u, by simp, hv⟩
  | v2 :: vs, us, v, r, u, hv, hs, h => by
    cases us with
    | nil => have := hs.1; simp at this
    | cons u2 us =>
      simp only [mmL, Option.bind_eq_some_iff] at h
      obtain ⟨q, hq, h⟩ := h
      have hstep : ∃ x, ((if isMin then Builtin.min2 else Builtin.max2) u u2).run P w = .ok x w ∧ Rel ρ F q x := by
        cases v <;> cases v2 <;> simp [mm2] at hq
        subst hq
        rw [hv.int_inv, hs.head.int_inv]
        refine ⟨_, ?_, .t (.int _ _)⟩
        cases isMin <;> simp [Builtin.min2, Builtin.max2]
      obtain ⟨x, h1, h2⟩ := hstep
      obtain ⟨y, h3, h4⟩ := mmL_run (vs := vs) h2 hs.tail h
      refine ⟨y, ?_, h4⟩
      simp only [List.foldlM_cons, Sem.run_bind, h1, Result.andThen_ok]
      exact h3
end
end Go.AM
