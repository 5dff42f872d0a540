/- A general reader: whatever data an argument reads as, its cells are those of a Lean value, kind by kind, with the bounds that every such value keeps. -/
import Derived.Test.YtpfkhinbehegbaaWd
import Derived.OpenShut
import Derived.SizedLaws
import Derived.WideShapes
import Derived.ShutString
import Derived.Carry
import Derived.DataReads
import Derived.ProofKit
namespace Go.Proofs.YtpfkhinbehegbaaW.Op
open Go.RowKit Go.ChangeShapes Go.WideShapes Go.Proofs.YtpfkhinbehegbaaW.PrintWords
variable {P : Program}

/-- cells of type t that read as some datum are those of a value of the kind, and V holds of it -/
def Opens {α : Type} (P : Program) (t : TypeId) (d : Kd α) (V : α → Prop) : Prop :=
  ∀ (H : Type) (enc : TypeId × Value → H) (w : World) (base : Nat) (sp : Nat → Bool) (fuel : Nat) (cs : List Value) (dat : DataW H) (ps : List MemPlace),
    DataW.trod enc P w base sp true fuel t cs = some (dat, ps) → (∀ q ∈ DataW.weights P t dat, q ≤ reachBytes) → ∃ x, d.K w x cs ∧ V x

theorem Opens.mono {α : Type} {t : TypeId} {d : Kd α} {V V' : α → Prop} (h : Opens P t d V) (hv : ∀ x, V x → V' x) : Opens P t d V' := by
  intro H enc w base sp fuel cs dat ps ht hq
  obtain ⟨x, hk, hx⟩ := h H enc w base sp fuel cs dat ps ht hq
  exact ⟨x, hk, hv x hx⟩

theorem opens_int {t : TypeId} {k : IntKind} (hu : P.underlying t = some (.int k)) : Opens P t (Kd.int k) (fun x => (Lit.int k x).wf = true) := by
  intro H enc w base sp fuel cs dat ps h _
  obtain ⟨n, rfl, _, hw⟩ := DataW.trod_int hu h
  exact ⟨n, rfl, hw⟩

theorem opens_bool {t : TypeId} (hu : P.underlying t = some .bool) : Opens P t Kd.bool (fun _ => True) := by
  intro H enc w base sp fuel cs dat ps h _
  obtain ⟨b, rfl, _⟩ := DataW.trod_bool hu h
  exact ⟨b, rfl, trivial⟩

theorem opens_string {t : TypeId} (hu : P.underlying t = some .string) : Opens P t Kd.string (fun s => s.size ≤ 140737488351232) := by
  intro H enc w base sp fuel cs dat ps h hq
  obtain ⟨s, rfl, he, _⟩ := DataW.trod_string hu h
  injection he with he
  subst he
  refine ⟨s, rfl, ?_⟩
  have := hq s.data.toList.length (by simp [DataW.weights])
  simpa [reachBytes] using this

/-- what holds at each place is chosen as a list -/
theorem choose_list {α : Type} (Q : Nat → α → Prop) : ∀ n : Nat, (∀ i, i < n → ∃ x, Q i x) → ∃ xs : List α, xs.length = n ∧ ∀ (i : Nat) (x : α), xs[i]? = some x → Q i x
  | 0, _ => ⟨[], rfl, by simp⟩
  | n + 1, h => by
    obtain ⟨xs, hl, hx⟩ := choose_list Q n (fun i hi => h i (by omega))
    obtain ⟨x, hq⟩ := h n (by omega)
    refine ⟨xs ++ [x], by simp [hl], fun i y hy => ?_⟩
    rcases Nat.lt_trichotomy i n with h1 | h1 | h1
    · rw [List.getElem?_append_left (by omega)] at hy
      exact hx i y hy
    · subst h1
      rw [List.getElem?_append_right (by omega), hl, Nat.sub_self] at hy
      simp at hy
      subst hy
      exact hq
    · rw [List.getElem?_eq_none (by simp [hl]; omega)] at hy
      cases hy

theorem weightsAll_mem {H : Type} {e : TypeId} : ∀ {ds : List (DataW H)} {d : DataW H}, d ∈ ds → ∀ q ∈ DataW.weights P e d, q ∈ DataW.weightsAll P e ds
  | d0 :: ds, d, hd, q, hq => by
    rw [DataW.weightsAll, List.mem_append]
    rcases List.mem_cons.1 hd with rfl | hd
    · exact .inl hq
    · exact .inr (weightsAll_mem hd q hq)

theorem opens_slice {α : Type} {t : TypeId} {e : Nat} {d : Kd α} {V : α → Prop} {B : Nat} (hu : P.underlying t = some (.slice e)) (hs : P.cellsOf e = d.sz) (hB : P.bytesOf e = B) (ho : Opens P e d V) :
    Opens P t (Kd.slice e d) (fun xs => xs.length * B ≤ 140737488351232 ∧ xs.length ≤ 9223372036854775807 ∧ ∀ x ∈ xs, V x) := by
  intro H enc w base sp fuel cs dat ps h hq
  rcases DataW.trod_slice hu h with ⟨rfl, he⟩ | ⟨a, len, cap, elems, rest, n, rfl, rfl, he, hb, hlc, hcm, hel, hx, -, -⟩
  · exact ⟨[], ⟨none, 0, rfl, Nat.le_refl _, rfl, by simp, fun h => absurd h (by simp)⟩, by simp⟩
  · injection he with he _
    subst he
    obtain ⟨xs, hl, hxs⟩ := choose_list (fun i x => ∃ c, w.cells? base (a.add (i * P.cellsOf e)) (P.cellsOf e) = some c ∧ d.K w x c ∧ V x) len (by
      intro i hi
      obtain ⟨p, hp⟩ : ∃ p, elems[i]? = some p := ⟨_, List.getElem?_eq_getElem (by omega)⟩
      have h1 := hx i hi
      rw [hp] at h1
      obtain ⟨c, hc, ht⟩ := Option.bind_eq_some_iff.1 h1
      obtain ⟨x, hk, hv⟩ := ho H enc w base sp n c p.1 p.2 ht (by
        intro q hq1
        refine hq q ?_
        simp only [DataW.weights]
        rw [hu]
        refine List.mem_cons_of_mem _ (List.mem_append.2 (.inl (weightsAll_mem (List.mem_map.2 ⟨p, List.mem_of_getElem? hp, rfl⟩) q hq1)))
      )
      exact ⟨x, c, hc, hk, hv⟩)
    have hm : len ≤ 9223372036854775807 := Nat.le_trans hlc hcm
    have hw : xs.length * B ≤ 140737488351232 := by
      have := hq ((elems.map (·.1)).length * B + (rest.map (·.1)).length * B) (by
        simp only [DataW.weights]
        rw [hu, ← Nat.add_mul]
        simp only [hB]
        exact List.mem_cons_self)
      simp only [List.length_map, hel, reachBytes] at this
      rw [hl]
      omega
    refine ⟨xs, ⟨some a, cap, by rw [hl], by omega, rfl, by omega, fun _ => ⟨a, rfl, fun j p hj => ?_⟩⟩, hw, by omega, fun x hxm => ?_⟩
    · obtain ⟨c, hc, hk, _⟩ := hxs j p hj
      obtain ⟨_, hcl, hcc⟩ := World.cells?_some hc
      refine ⟨c, by rw [hcl, hs], hk, fun i u hu' => ?_⟩
      have hi : i < P.cellsOf e := by rw [← hcl]; exact (List.getElem?_eq_some_iff.1 hu').1
      have := hcc i hi
      rw [Addr.add_add, hu', hs] at this
      exact this
    · obtain ⟨j, hj⟩ := List.mem_iff_getElem?.1 hxm
      obtain ⟨c, _, _, hv⟩ := hxs j x hj
      exact hv

/-- fields in line, from a place on: types and offsets -/
def OpensFs {α : Type} (P : Program) (fs : List (TypeId × Nat)) (off : Nat) (d : Kd α) (V : α → Prop) : Prop :=
  ∀ (H : Type) (enc : TypeId × Value → H) (w : World) (base : Nat) (sp : Nat → Bool) (fuel : Nat) (cs : List Value) (xs : List (DataW H × List MemPlace)),
    xs.length = fs.length → (∀ (i : Nat) (f : TypeId × Nat), fs[i]? = some f → DataW.trod enc P w base sp true fuel f.1 ((cs.drop f.2).take (P.cellsOf f.1)) = xs[i]?) →
    (∀ q ∈ DataW.weightsEach P (fs.map (·.1)) (xs.map (·.1)), q ≤ reachBytes) → off + d.sz = cs.length → ∃ x, d.K w x (cs.drop off) ∧ V x

theorem opensFs_one {α : Type} {f : TypeId × Nat} {off : Nat} {d : Kd α} {V : α → Prop} (ho : f.2 = off) (hc : P.cellsOf f.1 = d.sz) (h : Opens P f.1 d V) : OpensFs P [f] off d V := by
  intro H enc w base sp fuel cs xs hl hx hq hcs
  obtain ⟨y, rfl⟩ : ∃ y, xs = [y] := by
    match xs, hl with
    | [y], _ => exact ⟨y, rfl⟩
  have h0 := hx 0 f rfl
  rw [ho, hc, List.take_of_length_le (by simp; omega)] at h0
  exact h H enc w base sp fuel _ y.1 y.2 h0 (fun q hq1 => hq q (by simp [DataW.weightsEach, hq1]))

theorem opensFs_cons {α β : Type} {f : TypeId × Nat} {fs : List (TypeId × Nat)} {off off' : Nat} {a : Kd α} {b : Kd β} {V : α → Prop} {V' : β → Prop} (ho : f.2 = off) (hc : P.cellsOf f.1 = a.sz) (hoff : off + a.sz = off')
    (h : Opens P f.1 a V) (hs : OpensFs P fs off' b V') : OpensFs P (f :: fs) off (Kd.pair a b) (fun x => V x.1 ∧ V' x.2) := by
  subst hoff
  intro H enc w base sp fuel cs xs hl hx hq hcs
  obtain ⟨y, ys, rfl⟩ : ∃ y ys, xs = y :: ys := by
    match xs, hl with
    | y :: ys, _ => exact ⟨y, ys, rfl⟩
  have hcs' : off + (a.sz + b.sz) = cs.length := hcs
  have h0 := hx 0 f rfl
  rw [ho, hc] at h0
  obtain ⟨x, hk, hv⟩ := h H enc w base sp fuel _ y.1 y.2 h0 (fun q hq1 => hq q (by simp [DataW.weightsEach, hq1]))
  obtain ⟨x', hk', hv'⟩ := hs H enc w base sp fuel cs ys (by simpa using hl) (fun i g hg => hx (i + 1) g hg) (fun q hq1 => hq q (by
    simp only [List.map_cons, DataW.weightsEach, List.mem_append]
    exact .inr hq1)) (by omega)
  refine ⟨(x, x'), ⟨_, _, ?_, hk, hk'⟩, hv, hv'⟩
  rw [← List.drop_drop, List.take_append_drop]

theorem opens_struct {α : Type} {t : TypeId} {fs : Array Field} {d : Kd α} {V : α → Prop} {l : List (TypeId × Nat)} (hu : P.underlying t = some (.struct fs)) (hs : P.cellsOf t = d.sz)
    (hl : (fs.toList.map fun f => (f.type, f.offset)) = l) (h : OpensFs P l 0 d V) : Opens P t d V := by
  subst hl
  intro H enc w base sp fuel cs dat ps ht hq
  obtain ⟨xs, n, rfl, he, hl, hxl, hx⟩ := DataW.trod_struct hu ht
  injection he with he _
  subst he
  have := h H enc w base sp n cs xs (by simpa using hxl) (fun i f hf => by
    rw [List.getElem?_map, Option.map_eq_some_iff] at hf
    obtain ⟨g, hg, rfl⟩ := hf
    exact hx i g (by simpa using hg)) (fun q hq1 => hq q (by
      simp only [DataW.weights]
      rw [hu]
      simpa [Function.comp_def] using hq1)) (by omega)
  simpa using this

theorem weightsEach_same {H : Type} {e : TypeId} : ∀ {ts : List TypeId} {ds : List (DataW H)}, (∀ t ∈ ts, t = e) → ∀ q ∈ DataW.weightsEach P ts ds, q ∈ DataW.weightsAll P e ds
  | [], ds, _, q, hq => by simp [DataW.weightsEach] at hq
  | t :: ts, [], _, q, hq => by simp [DataW.weightsEach] at hq
  | t :: ts, d :: ds, ht, q, hq => by
    rw [DataW.weightsEach, List.mem_append] at hq
    rw [DataW.weightsAll, List.mem_append]
    obtain rfl := ht t List.mem_cons_self
    rcases hq with hq | hq
    · exact .inl hq
    · exact .inr (weightsEach_same (fun x hx => ht x (List.mem_cons_of_mem _ hx)) q hq)

theorem opens_array {α : Type} {t : TypeId} {n : Nat} {e : TypeId} {d : Kd α} {V : α → Prop} {l : List (TypeId × Nat)} (hu : P.underlying t = some (.array n e)) (hs : P.cellsOf t = d.sz)
    (hl : ((List.range n).map fun i => (e, i * P.cellsOf e)) = l) (h : OpensFs P l 0 d V) : Opens P t d V := by
  subst hl
  intro H enc w base sp fuel cs dat ps ht hq
  obtain ⟨xs, m, rfl, he, hl, hxl, hx⟩ := DataW.trod_array hu ht
  injection he with he _
  subst he
  have := h H enc w base sp m cs xs (by simpa using hxl) (fun i f hf => by
    rw [List.getElem?_map, Option.map_eq_some_iff] at hf
    obtain ⟨g, hg, rfl⟩ := hf
    obtain ⟨hi, rfl⟩ := List.getElem?_eq_some_iff.1 hg
    simp only [List.length_range] at hi
    simp only [List.getElem_range]
    exact hx i hi) (fun q hq1 => hq q (by
      simp only [DataW.weights]
      rw [hu]
      refine weightsEach_same ?_ q hq1
      intro t' ht'
      simp at ht'
      obtain ⟨_, _, rfl⟩ := ht'
      rfl)) (by omega)
  simpa using this

theorem opens_iso {α β : Type} {t : TypeId} {d : Kd α} {V : α → Prop} (f : β → α) (g : α → β) (hfg : ∀ a, f (g a) = a) (h : Opens P t d V) : Opens P t (Kd.iso d f) (fun b => V (f b)) := by
  intro H enc w base sp fuel cs dat ps ht hq
  obtain ⟨x, hk, hv⟩ := h H enc w base sp fuel cs dat ps ht hq
  refine ⟨g x, ?_, ?_⟩
  · show d.K w (f (g x)) cs
    rw [hfg]; exact hk
  · show V (f (g x))
    rw [hfg]; exact hv

/-- an argument: its value's cells -/
theorem Opens.arg {α : Type} {H : Type} {enc : TypeId × Value → H} {w : World} {base : Nat} {sp : Nat → Bool} {t : TypeId} {d : Kd α} {V : α → Prop} (h : Opens P t d V) {v : Value} {dat : DataW H} {ps : List MemPlace}
    (ht : DataW.Trod enc P w base sp true t v dat ps) {ts : List TypeId} {ds : List (DataW H)} (hsz : (DataW.weightsEach P ts ds).all (· ≤ reachBytes) = true) {j : Nat} (h1 : ts[j]? = some t) (h2 : ds[j]? = some dat) :
    ∃ x, d.K w x v.cells.toList ∧ V x := by
  obtain ⟨fuel, hf⟩ := ht
  exact h H enc w base sp fuel _ dat ps hf (fun q hq => by
    have := List.all_eq_true.1 hsz _ (DataW.weights_mem_each h1 h2 q hq)
    simpa using this)
end Go.Proofs.YtpfkhinbehegbaaW.Op
