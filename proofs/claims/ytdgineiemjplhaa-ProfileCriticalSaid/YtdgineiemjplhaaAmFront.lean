/- Arguments: whatever data an argument reads as, it is a value of the executor's, with the bounds that every such value keeps. -/
import Derived.Test.YtdgineiemjplhaaAmRun
import Derived.OpenShut
import Derived.SizedLaws
import Derived.WideShapes
import Derived.ShutString
import Derived.Carry
import Derived.DataReads
import Derived.ProofKit
set_option linter.unusedVariables false
set_option linter.unusedSimpArgs false
namespace Go.AM
open Go Go.RowKit Go.ChangeShapes Go.WideShapes
variable {P : Program}

def Fw (w : World) : Fz := fun g o => w.cell? ⟨g, o, Option.none⟩
def RelC (F : Fz) (vs : List V) (cs : List Value) : Prop := vs.length = cs.length ∧ ∀ (j : Nat) (v : V) (u : Value), vs[j]? = some v → cs[j]? = some u → RelT F v u

/-- cells of type t that read as some datum are n cells of the executor's, of which R holds -/
def OpensV (P : Program) (t : TypeId) (n : Nat) (R : List V → Prop) : Prop :=
  ∀ (H : Type) (enc : TypeId × Value → H) (w : World) (base : Nat) (sp : Nat → Bool) (fuel : Nat) (cs : List Value) (dat : DataW H) (ps : List MemPlace),
    DataW.trod enc P w base sp true fuel t cs = some (dat, ps) → (∀ q ∈ DataW.weights P t dat, q ≤ reachBytes) → ∃ vs, RelC (Fw w) vs cs ∧ vs.length = n ∧ R vs

theorem RelC.one {F : Fz} {v : V} {u : Value} (h : RelT F v u) : RelC F [v] [u] := ⟨rfl, fun j v' u' hv hu => by
  cases j with
  | zero => simp at hv hu; subst hv hu; exact h
  | succ j => simp at hv⟩
theorem opensV_int {t : TypeId} {k : IntKind} (hu : P.underlying t = some (.int k)) : OpensV P t 1 (fun vs => ∃ n, vs = [.int k n] ∧ (Lit.int k n).wf = true) := by
  intro H enc w base sp fuel cs dat ps h _
  obtain ⟨n, rfl, _, hw⟩ := DataW.trod_int hu h
  exact ⟨_, .one (.int k n), rfl, n, rfl, hw⟩
theorem opensV_bool {t : TypeId} (hu : P.underlying t = some .bool) : OpensV P t 1 (fun vs => ∃ b, vs = [.bool b]) := by
  intro H enc w base sp fuel cs dat ps h _
  obtain ⟨b, rfl, _⟩ := DataW.trod_bool hu h
  exact ⟨_, .one (.bool b), rfl, b, rfl⟩
theorem opensV_string {t : TypeId} (hu : P.underlying t = some .string) : OpensV P t 1 (fun vs => ∃ s, vs = [.str s] ∧ s.size ≤ 140737488351232) := by
  intro H enc w base sp fuel cs dat ps h hq
  obtain ⟨s, rfl, he, _⟩ := DataW.trod_string hu h
  injection he with he
  subst he
  refine ⟨_, .one (.str s), rfl, s, rfl, ?_⟩
  have := hq s.data.toList.length (by simp [DataW.weights])
  simpa [reachBytes] using this

theorem choose_list {α : Type} (Q : Nat → α → Prop) : ∀ n : Nat, (∀ i, i < n → ∃ x, Q i x) → ∃ xs : List α, xs.length = n ∧ ∀ (i : Nat) (x : α), xs[i]? = some x → Q i x
  | 0, _ => ⟨[], rfl, by simp⟩
  | n + 1, h => by
    obtain ⟨xs, hl, hx⟩ := choose_list Q n (fun i hi => h i (by omega))
    obtain ⟨x, hq⟩ := h n (by omega)
    refine ⟨xs ++ [x], by simp [hl], fun i y hy => ?_⟩
    rcases Nat.lt_trichotomy i n with h1 | h1 | h1
    · rw [List.getElem?_append_left (by omega)] at hy
      exact hx i y hy
    · subst h1
      rw [List.getElem?_append_right (by omega), hl, Nat.sub_self] at hy
      simp at hy
      subst hy
      exact hq
    · rw [List.getElem?_eq_none (by simp [hl]; omega)] at hy
      cases hy
theorem weightsAll_mem {H : Type} {e : TypeId} : ∀ {ds : List (DataW H)} {d : DataW H}, d ∈ ds → ∀ q ∈ DataW.weights P e d, q ∈ DataW.weightsAll P e ds
  | d0 :: ds, d, hd, q, hq => by
    rw [DataW.weightsAll, List.mem_append]
    rcases List.mem_cons.1 hd with rfl | hd
    · exact .inl hq
    · exact .inr (weightsAll_mem hd q hq)

theorem opensV_slice {t : TypeId} {e : Nat} {n : Nat} {R : List V → Prop} {B : Nat} (hu : P.underlying t = some (.slice e)) (hs : P.cellsOf e = n) (hn : n ≠ 0) (hB : P.bytesOf e = B) (ho : OpensV P e n R) :
    OpensV P t 1 (fun vs => vs = [.nils] ∨ ∃ es, vs = [.tsl n es] ∧ es.length * B ≤ 140737488351232 ∧ es.length ≤ 9223372036854775807 ∧ ∀ x ∈ es, R x) := by
  intro H enc w base sp fuel cs dat ps h hq
  rcases DataW.trod_slice hu h with ⟨rfl, he⟩ | ⟨a, len, cap, elems, rest, m, rfl, rfl, he, hb, hlc, hcm, hel, hx, -, -⟩
  · exact ⟨_, .one .nils, rfl, .inl rfl⟩
  · injection he with he _
    subst he
    obtain ⟨xs, hl, hxs⟩ := choose_list (fun i x => ∃ c, w.cells? base (a.add (i * P.cellsOf e)) (P.cellsOf e) = some c ∧ RelC (Fw w) x c ∧ x.length = n ∧ R x) len (by
      intro i hi
      obtain ⟨p, hp⟩ : ∃ p, elems[i]? = some p := ⟨_, List.getElem?_eq_getElem (by omega)⟩
      have h1 := hx i hi
      rw [hp] at h1
      obtain ⟨c, hc, ht⟩ := Option.bind_eq_some_iff.1 h1
      obtain ⟨x, hk, hv⟩ := ho H enc w base sp m c p.1 p.2 ht (by
        intro q hq1
        refine hq q ?_
        simp only [DataW.weights]
        rw [hu]
        refine List.mem_cons_of_mem _ (List.mem_append.2 (.inl (weightsAll_mem (List.mem_map.2 ⟨p, List.mem_of_getElem? hp, rfl⟩) q hq1))))
      exact ⟨x, c, hc, hk, hv⟩)
    have hm : len ≤ 9223372036854775807 := Nat.le_trans hlc hcm
    have hw : xs.length * B ≤ 140737488351232 := by
      have := hq ((elems.map (·.1)).length * B + (rest.map (·.1)).length * B) (by
        simp only [DataW.weights]
        rw [hu, ← Nat.add_mul]
        simp only [hB]
        exact List.mem_cons_self)
      simp only [List.length_map, hel, reachBytes] at this
      rw [hl]
      omega
    have hcell : ∀ (i : Nat) (x : List V) (j : Nat) (v : V), xs[i]? = some x → x[j]? = some v → ∃ u, w.cell? (a.add (i * n + j)) = some u ∧ RelT (Fw w) v u := by
      intro i x j v hi hj
      obtain ⟨c, hc, hk, hxn, hR⟩ := hxs i x hi
      obtain ⟨_, hcl, hcc⟩ := World.cells?_some hc
      have hjn : j < n := by rw [← hxn]; exact (List.getElem?_eq_some_iff.1 hj).1
      have hjc : j < c.length := by rw [hcl, hs]; exact hjn
      have := hcc j (by rw [hs]; exact hjn)
      rw [Addr.add_add, hs] at this
      exact ⟨c[j], by rw [this]; exact List.getElem?_eq_getElem hjc, hk.2 j v c[j] hj (List.getElem?_eq_getElem hjc)⟩
    have hspot : ∀ {u}, w.cell? a = some u → a.spot = none := by
      intro u h
      unfold World.cell? at h
      split at h
      · split at h
        · cases h
        · rename_i hns
          cases hsp : a.spot with
          | none => rfl
          | some s => simp [hsp] at hns
      · cases h
    have hadd : xs ≠ [] → a = ⟨a.block, a.off, none⟩ ∧ ∀ i, a.add i = ⟨a.block, a.off + i, none⟩ := by
      intro hne
      have h0 : 0 < xs.length := List.length_pos_iff.2 hne
      have hx0 := (hxs 0 xs[0] (List.getElem?_eq_getElem h0)).choose_spec.2.2.1
      obtain ⟨u, hu, _⟩ := hcell 0 xs[0] 0 (xs[0][0]'(by omega)) (List.getElem?_eq_getElem h0) (List.getElem?_eq_getElem (by omega))
      have h1 : a.add (0 * n + 0) = a := by simp [Addr.add]
      rw [h1] at hu
      have hsp := hspot hu
      obtain ⟨ab, ao, asp⟩ := a
      simp only at hsp
      subst hsp
      refine ⟨rfl, fun i => ?_⟩
      unfold Addr.add
      split
      · rename_i hi; simp [hi]
      · rfl
    refine ⟨[.tsl n xs], ?_, rfl, .inr ⟨xs, rfl, hw, by omega, fun x hx => ?_⟩⟩
    · have hrel : RelT (Fw w) (.tsl n xs) (.slice (some a) xs.length cap) := by
        refine .tsl n xs (some a) cap a.block a.off (fun i j => (w.cell? (a.add (i * n + j))).getD Go.undef) (by omega) hcm ⟨rfl, fun hne => ?_⟩ (fun i x j v hi hj => ?_) (fun i x j v hi hj => ?_) (fun x hx => ?_)
        · rw [← (hadd hne).1]
        · obtain ⟨u, hu, _⟩ := hcell i x j v hi hj
          have hne : xs ≠ [] := fun h => by rw [h] at hi; simp at hi
          simp only [Fw]
          rw [hu, Option.getD_some, ← hu, (hadd hne).2, Nat.add_assoc]
        · obtain ⟨u, hu, hr⟩ := hcell i x j v hi hj
          rw [hu]
          exact hr
        · obtain ⟨i, hi⟩ := List.mem_iff_getElem?.1 hx
          exact (hxs i x hi).choose_spec.2.2.1
      rw [hl] at hrel
      exact .one hrel
    · obtain ⟨i, hi⟩ := List.mem_iff_getElem?.1 hx
      exact (hxs i x hi).choose_spec.2.2.2

/-- fields in line, from a place on: types and offsets -/
def OpensVs (P : Program) (fs : List (TypeId × Nat)) (off n : Nat) (R : List V → Prop) : Prop :=
  ∀ (H : Type) (enc : TypeId × Value → H) (w : World) (base : Nat) (sp : Nat → Bool) (fuel : Nat) (cs : List Value) (xs : List (DataW H × List MemPlace)),
    xs.length = fs.length → (∀ (i : Nat) (f : TypeId × Nat), fs[i]? = some f → DataW.trod enc P w base sp true fuel f.1 ((cs.drop f.2).take (P.cellsOf f.1)) = xs[i]?) →
    (∀ q ∈ DataW.weightsEach P (fs.map (·.1)) (xs.map (·.1)), q ≤ reachBytes) → off + n = cs.length → ∃ vs, RelC (Fw w) vs (cs.drop off) ∧ vs.length = n ∧ R vs
theorem RelC.append {F : Fz} {as bs : List V} {us ws : List Value} (h : RelC F as us) (k : RelC F bs ws) : RelC F (as ++ bs) (us ++ ws) := by
  refine ⟨by simp [h.1, k.1], fun j v u hv hu => ?_⟩
  by_cases hj : j < as.length
  · rw [List.getElem?_append_left hj] at hv
    rw [List.getElem?_append_left (h.1 ▸ hj)] at hu
    exact h.2 j v u hv hu
  · rw [List.getElem?_append_right (by omega)] at hv
    rw [List.getElem?_append_right (by rw [← h.1]; omega), ← h.1] at hu
    exact k.2 _ v u hv hu
theorem opensVs_one {f : TypeId × Nat} {off n : Nat} {R : List V → Prop} (ho : f.2 = off) (hc : P.cellsOf f.1 = n) (h : OpensV P f.1 n R) : OpensVs P [f] off n R := by
  intro H enc w base sp fuel cs xs hl hx hq hcs
  obtain ⟨y, rfl⟩ : ∃ y, xs = [y] := by
    match xs, hl with
    | [y], _ => exact ⟨y, rfl⟩
  have h0 := hx 0 f rfl
  rw [ho, hc, List.take_of_length_le (by simp; omega)] at h0
  exact h H enc w base sp fuel _ y.1 y.2 h0 (fun q hq1 => hq q (by simp [DataW.weightsEach, hq1]))
theorem opensVs_cons {f : TypeId × Nat} {fs : List (TypeId × Nat)} {off off' n m : Nat} {R R' : List V → Prop} (ho : f.2 = off) (hc : P.cellsOf f.1 = n) (hoff : off + n = off') (h : OpensV P f.1 n R) (hs : OpensVs P fs off' m R') :
    OpensVs P (f :: fs) off (n + m) (fun vs => ∃ a b, vs = a ++ b ∧ R a ∧ R' b) := by
  subst hoff
  intro H enc w base sp fuel cs xs hl hx hq hcs
  obtain ⟨y, ys, rfl⟩ : ∃ y ys, xs = y :: ys := by
    match xs, hl with
    | y :: ys, _ => exact ⟨y, ys, rfl⟩
  have h0 := hx 0 f rfl
  rw [ho, hc] at h0
  obtain ⟨a, hk, ha, hv⟩ := h H enc w base sp fuel _ y.1 y.2 h0 (fun q hq1 => hq q (by simp [DataW.weightsEach, hq1]))
  obtain ⟨b, hk', hb, hv'⟩ := hs H enc w base sp fuel cs ys (by simpa using hl) (fun i g hg => hx (i + 1) g hg) (fun q hq1 => hq q (by
    simp only [List.map_cons, DataW.weightsEach, List.mem_append]
    exact .inr hq1)) (by omega)
  refine ⟨a ++ b, ?_, by simp [ha, hb], a, b, rfl, hv, hv'⟩
  have := hk.append hk'
  rwa [← List.drop_drop, List.take_append_drop] at this
theorem opensV_struct {t : TypeId} {fs : Array Field} {n : Nat} {R : List V → Prop} {l : List (TypeId × Nat)} (hu : P.underlying t = some (.struct fs)) (hs : P.cellsOf t = n)
    (hl : (fs.toList.map fun f => (f.type, f.offset)) = l) (h : OpensVs P l 0 n R) : OpensV P t n R := by
  subst hl
  intro H enc w base sp fuel cs dat ps ht hq
  obtain ⟨xs, m, rfl, he, hl, hxl, hx⟩ := DataW.trod_struct hu ht
  injection he with he _
  subst he
  have := h H enc w base sp m cs xs (by simpa using hxl) (fun i f hf => by
    rw [List.getElem?_map, Option.map_eq_some_iff] at hf
    obtain ⟨g, hg, rfl⟩ := hf
    exact hx i g (by simpa using hg)) (fun q hq1 => hq q (by
      simp only [DataW.weights]
      rw [hu]
      simpa [Function.comp_def] using hq1)) (by omega)
  simpa using this
theorem weightsEach_same {H : Type} {e : TypeId} : ∀ {ts : List TypeId} {ds : List (DataW H)}, (∀ t ∈ ts, t = e) → ∀ q ∈ DataW.weightsEach P ts ds, q ∈ DataW.weightsAll P e ds
  | [], ds, _, q, hq => by simp [DataW.weightsEach] at hq
  | t :: ts, [], _, q, hq => by simp [DataW.weightsEach] at hq
  | t :: ts, d :: ds, ht, q, hq => by
    rw [DataW.weightsEach, List.mem_append] at hq
    rw [DataW.weightsAll, List.mem_append]
    obtain rfl := ht t List.mem_cons_self
    rcases hq with hq | hq
    · exact .inl hq
    · exact .inr (weightsEach_same (fun x hx => ht x (List.mem_cons_of_mem _ hx)) q hq)
theorem opensV_array {t : TypeId} {c : Nat} {e : TypeId} {n : Nat} {R : List V → Prop} {l : List (TypeId × Nat)} (hu : P.underlying t = some (.array c e)) (hs : P.cellsOf t = n)
    (hl : ((List.range c).map fun i => (e, i * P.cellsOf e)) = l) (h : OpensVs P l 0 n R) : OpensV P t n R := by
  subst hl
  intro H enc w base sp fuel cs dat ps ht hq
  obtain ⟨xs, m, rfl, he, hl, hxl, hx⟩ := DataW.trod_array hu ht
  injection he with he _
  subst he
  have := h H enc w base sp m cs xs (by simpa using hxl) (fun i f hf => by
    rw [List.getElem?_map, Option.map_eq_some_iff] at hf
    obtain ⟨g, hg, rfl⟩ := hf
    obtain ⟨hi, rfl⟩ := List.getElem?_eq_some_iff.1 hg
    simp only [List.length_range] at hi
    simp only [List.getElem_range]
    exact hx i hi) (fun q hq1 => hq q (by
      simp only [DataW.weights]
      rw [hu]
      refine weightsEach_same ?_ q hq1
      intro t' ht'
      simp at ht'
      obtain ⟨_, _, rfl⟩ := ht'
      rfl)) (by omega)
  simpa using this

/-- an argument -/
def Reads (P : Program) (t : TypeId) (R : V → Prop) : Prop :=
  ∀ (H : Type) (enc : TypeId × Value → H) (w : World) (b0 base : Nat) (sp : Nat → Bool) (v : Value) (dat : DataW H) (ps : List MemPlace), Value.okWide P w .any b0 t v → DataW.Trod enc P w base sp true t v dat ps → (∀ q ∈ DataW.weights P t dat, q ≤ reachBytes) →
    ∃ x, Rel Rho.none (Fw w) x v ∧ R x
theorem OpensV.cells {t : TypeId} {n : Nat} {R : List V → Prop} (h : OpensV P t n R) {H : Type} {enc : TypeId × Value → H} {w : World} {base : Nat} {sp : Nat → Bool} {v : Value} {dat : DataW H} {ps : List MemPlace} (ht : DataW.Trod enc P w base sp true t v dat ps) (hq : ∀ q ∈ DataW.weights P t dat, q ≤ reachBytes) :
    ∃ vs, RelC (Fw w) vs v.cells.toList ∧ vs.length = n ∧ R vs := by
  obtain ⟨fuel, hf⟩ := ht
  exact h H enc w base sp fuel _ dat ps hf hq
theorem OpensV.cell {t : TypeId} {R : List V → Prop} (h : OpensV P t 1 R) {H : Type} {enc : TypeId × Value → H} {w : World} {base : Nat} {sp : Nat → Bool} {v : Value} {dat : DataW H} {ps : List MemPlace} (ht : DataW.Trod enc P w base sp true t v dat ps) (hq : ∀ q ∈ DataW.weights P t dat, q ≤ reachBytes)
    (hv : v.cells.toList = [v]) : ∃ x, Rel Rho.none (Fw w) x v ∧ R [x] := by
  obtain ⟨vs, h1, h2, h3⟩ := h.cells ht hq
  rw [hv] at h1
  match vs, h2, h1, h3 with
  | [x], _, h1, h3 => exact ⟨x, .t (h1.2 0 x v rfl rfl), h3⟩
theorem OpensV.agg {t : TypeId} {n : Nat} {R : List V → Prop} (h : OpensV P t n R) {H : Type} {enc : TypeId × Value → H} {w : World} {base : Nat} {sp : Nat → Bool} {cs : Array Value} {dat : DataW H} {ps : List MemPlace} (ht : DataW.Trod enc P w base sp true t (.agg cs) dat ps) (hq : ∀ q ∈ DataW.weights P t dat, q ≤ reachBytes) :
    ∃ x, Rel Rho.none (Fw w) x (.agg cs) ∧ ∃ vs, x = .agg vs ∧ R vs := by
  obtain ⟨vs, h1, h2, h3⟩ := h.cells ht hq
  have h1 : RelC (Fw w) vs cs.toList := h1
  refine ⟨.agg vs, ?_, vs, rfl, h3⟩
  have := Rel.agg (ρ := Rho.none) (F := Fw w) vs cs.toList h1.1 (fun j v u hv hu => .t (h1.2 j v u hv hu)) (fun v hv => by
    obtain ⟨j, hj⟩ := List.mem_iff_getElem?.1 hv
    have hjl : j < cs.toList.length := by rw [← h1.1]; exact (List.getElem?_eq_some_iff.1 hj).1
    exact V.cell_of_tree (h1.2 j v cs.toList[j] hj (List.getElem?_eq_getElem hjl)).tree)
  simpa using this
theorem reads_int {t : TypeId} {k : IntKind} (hu : P.underlying t = some (.int k)) : Reads P t (fun x => ∃ n, x = .int k n ∧ (Lit.int k n).wf = true) := by
  intro H enc w b0 base sp v dat ps hv ht hq
  obtain ⟨n, rfl⟩ := okWide_int hu hv
  obtain ⟨x, h1, m, h2, h3⟩ := (opensV_int hu).cell ht hq rfl
  simp at h2
  exact ⟨x, h1, m, h2, h3⟩
theorem reads_bool {t : TypeId} (hu : P.underlying t = some .bool) : Reads P t (fun x => ∃ b, x = .bool b) := by
  intro H enc w b0 base sp v dat ps hv ht hq
  obtain ⟨n, rfl⟩ := okWide_bool hu hv
  obtain ⟨x, h1, m, h2⟩ := (opensV_bool hu).cell ht hq rfl
  simp at h2
  exact ⟨x, h1, m, h2⟩
theorem reads_string {t : TypeId} (hu : P.underlying t = some .string) : Reads P t (fun x => ∃ s, x = .str s ∧ s.size ≤ 140737488351232) := by
  intro H enc w b0 base sp v dat ps hv ht hq
  obtain ⟨n, rfl⟩ := okWide_string hu hv
  obtain ⟨x, h1, m, h2, h3⟩ := (opensV_string hu).cell ht hq rfl
  simp at h2
  exact ⟨x, h1, m, h2, h3⟩
theorem reads_slice {t : TypeId} {e : Nat} {n : Nat} {R : List V → Prop} {B : Nat} (hu : P.underlying t = some (.slice e)) (hs : P.cellsOf e = n) (hn : n ≠ 0) (hB : P.bytesOf e = B) (ho : OpensV P e n R) :
    Reads P t (fun x => x = .nils ∨ ∃ es, x = .tsl n es ∧ es.length * B ≤ 140737488351232 ∧ es.length ≤ 9223372036854775807 ∧ ∀ x ∈ es, R x) := by
  intro H enc w b0 base sp v dat ps hv ht hq
  obtain ⟨a, len, cap, rfl⟩ := okWide_slice hu hv
  obtain ⟨x, h1, h2⟩ := (opensV_slice hu hs hn hB ho).cell ht hq rfl
  refine ⟨x, h1, h2.imp (fun h => by simpa using h) fun ⟨m, h2, h3⟩ => ⟨m, by simpa using h2, h3⟩⟩
theorem reads_struct {t : TypeId} {fs : Array Field} {n : Nat} {R : List V → Prop} {l : List (TypeId × Nat)} (hu : P.underlying t = some (.struct fs)) (hs : P.cellsOf t = n)
    (hl : (fs.toList.map fun f => (f.type, f.offset)) = l) (h : OpensVs P l 0 n R) : Reads P t (fun x => ∃ vs, x = .agg vs ∧ R vs) := by
  intro H enc w b0 base sp v dat ps hv ht hq
  obtain ⟨cs, rfl, _⟩ := okWide_struct hu hv
  exact (opensV_struct hu hs hl h).agg ht hq
theorem okWide_arr {w : World} {r : Reach} {b : Nat} {t e : TypeId} {c : Nat} {v : Value} (ht : P.underlying t = some (.array c e)) (h : Value.okWide P w r b t v) : ∃ cs, v = .agg cs := by
  simp only [Value.okWide, ht, Cell.okWide] at h
  cases v <;> simp_all [Cell.ok]
theorem reads_array {t : TypeId} {c : Nat} {e : TypeId} {n : Nat} {R : List V → Prop} {l : List (TypeId × Nat)} (hu : P.underlying t = some (.array c e)) (hs : P.cellsOf t = n)
    (hl : ((List.range c).map fun i => (e, i * P.cellsOf e)) = l) (h : OpensVs P l 0 n R) : Reads P t (fun x => ∃ vs, x = .agg vs ∧ R vs) := by
  intro H enc w b0 base sp v dat ps hv ht hq
  obtain ⟨cs, rfl⟩ := okWide_arr hu hv
  exact (opensV_array hu hs hl h).agg ht hq
theorem Reads.arg {t : TypeId} {R : V → Prop} (h : Reads P t R) {H : Type} {enc : TypeId × Value → H} {w : World} {b0 base : Nat} {sp : Nat → Bool} {v : Value} {dat : DataW H} {ps : List MemPlace} (hv : Value.okWide P w .any b0 t v)
    (ht : DataW.Trod enc P w base sp true t v dat ps) {ts : List TypeId} {ds : List (DataW H)} (hsz : (DataW.weightsEach P ts ds).all (· ≤ reachBytes) = true) {j : Nat} (h1 : ts[j]? = some t) (h2 : ds[j]? = some dat) :
    ∃ x, Rel Rho.none (Fw w) x v ∧ R x :=
  h H enc w b0 base sp v dat ps hv ht fun q hq => by
    have := List.all_eq_true.1 hsz _ (DataW.weights_mem_each h1 h2 q hq)
    simpa using this

/-- the law's run: true, and what was there before stays -/
theorem law_calls [Ora] {tbl : FuncId → Option Fn} {pure : FuncId → Bool} (ht : TblOk P tbl) (ho : CallOk P Ora.ora) (hm : P.follows .mixedOrders = true) {f : FuncId} {args : List V} {us : List Value} {w : World} (hx : ∃ k H d, callF tbl pure k f args [] = some (.bool true, H, d)) (ha : RelL Rho.none (Fw w) args us) :
    Calls P f us.toArray w fun e w' => e = .returned (.bool true) ∧ Below w.heap.size w w' := by
  obtain ⟨k, H, d, hx⟩ := hx
  refine (calls_callF ht ho hm hx (F := Fw w) (fun g o x h => h) ha).mono ?_
  rintro e w' ⟨u, ρ', F', rfl, hE, hS, hR⟩
  obtain rfl := hR.bool_inv
  exact ⟨rfl, hE.below⟩
end Go.AM
