/- How the executor's values and heap stand to the model's: the relation, and what keeps it. -/
import Derived.Test.YtdgineiemjplhaaAmDefs
import Derived.ProofKit
set_option linter.unusedVariables false
namespace Go.AM
open Go Go.RowKit

/-- cells that stay as they are from now on -/
abbrev Fz := Nat → Nat → Option Value
/-- where a block lies: its number in the model's memory, the cells of an element, the elements' type, the elements that there is room for -/
structure RB where
  blk : Nat
  z : Nat
  ty : TypeId
  cap : Nat
/-- a block and its length (an append gives it a new place) -/
abbrev Rho := Nat → Nat → Option RB
def Rho.none : Rho := fun _ _ => Option.none

/-- the value of one cell -/
def oneC : Value → Bool
  | .agg _ | .tuple _ => false
  | _ => true

inductive RelT (F : Fz) : V → Value → Prop
  | bool (b : Bool) : RelT F (.bool b) (.bool b)
  | int (k : IntKind) (n : Int) : RelT F (.int k n) (.int k n)
  | str (s : ByteArray) : RelT F (.str s) (.string s)
  | nilp : RelT F .nilp (.pointer none)
  | nils : RelT F .nils (.slice none 0 0)
  | nilf : RelT F .nilf .nilFunc
  | fn (f : FuncId) : RelT F (.fn f []) (.func (.func f) #[] #[])
  | tsl (z : Nat) (es : List (List V)) (A : Option Addr) (cap g o : Nat) (u : Nat → Nat → Value) : es.length ≤ cap → cap ≤ maxLen → (A.isSome = true ∧ (es ≠ [] → A = some ⟨g, o, .none⟩)) →
      (∀ (i : Nat) (e : List V) (j : Nat) (v : V), es[i]? = some e → e[j]? = some v → F g (o + i * z + j) = some (u i j)) → (∀ (i : Nat) (e : List V) (j : Nat) (v : V), es[i]? = some e → e[j]? = some v → RelT F v (u i j)) → (∀ e ∈ es, e.length = z) →
      RelT F (.tsl z es) (.slice A es.length cap)
  | tptr (cs : List V) (o g base : Nat) (u : Nat → Value) : (∀ (j : Nat) (v : V), cs[j]? = some v → F g (base + j) = some (u j)) → (∀ (j : Nat) (v : V), cs[j]? = some v → RelT F v (u j)) →
      RelT F (.tptr cs o) (.pointer (some ⟨g, base + o, .none⟩))

inductive Rel (ρ : Rho) (F : Fz) : V → Value → Prop
  | t {v : V} {u : Value} : RelT F v u → Rel ρ F v u
  | undef (u : Value) : Rel ρ F .undef u
  | ptr (b L i o : Nat) (r : RB) : ρ b L = some r → Rel ρ F (.ptr b L i o) (.pointer (some ⟨r.blk, i * r.z + o, .none⟩))
  | sl (b L o n c : Nat) (r : RB) : ρ b L = some r → n ≤ c → o + c ≤ r.cap → r.cap ≤ maxLen → Rel ρ F (.sl r.z b L o n) (.slice (some ⟨r.blk, o * r.z, .none⟩) n c)
  | fn (f : FuncId) (cs : List V) (us : List Value) : cs.length = us.length → (∀ (j : Nat) (v : V) (u : Value), cs[j]? = some v → us[j]? = some u → Rel ρ F v u) → Rel ρ F (.fn f cs) (.func (.func f) #[] us.toArray)
  | agg (cs : List V) (us : List Value) : cs.length = us.length → (∀ (j : Nat) (v : V) (u : Value), cs[j]? = some v → us[j]? = some u → Rel ρ F v u) → (∀ v ∈ cs, v.cell = true) → Rel ρ F (.agg cs) (.agg us.toArray)
  | tup (cs : List V) (us : List Value) : cs.length = us.length → (∀ (j : Nat) (v : V) (u : Value), cs[j]? = some v → us[j]? = some u → Rel ρ F v u) → Rel ρ F (.tup cs) (.tuple us.toArray)
  | mp (b : Nat) (r : RB) : ρ b 0 = some r → r.z = 0 → Rel ρ F (.mp b) (.map (some r.blk))

/-- a slice with all the room of its block -/
theorem Rel.slF {ρ : Rho} {F : Fz} (b L o n : Nat) (r : RB) (h : ρ b L = some r) (h1 : o + n ≤ r.cap) (h2 : r.cap ≤ maxLen) : Rel ρ F (.sl r.z b L o n) (.slice (some ⟨r.blk, o * r.z, .none⟩) n (r.cap - o)) :=
  .sl b L o n (r.cap - o) r h (by omega) (by omega) h2
def Fle (F F' : Fz) : Prop := ∀ g o x, F g o = some x → F' g o = some x
def Rle (ρ ρ' : Rho) : Prop := ∀ b L r, ρ b L = some r → ρ' b L = some r
theorem Fle.refl (F : Fz) : Fle F F := fun _ _ _ h => h
theorem Rle.refl (ρ : Rho) : Rle ρ ρ := fun _ _ _ h => h
theorem Fle.trans {F G K : Fz} (h : Fle F G) (k : Fle G K) : Fle F K := fun _ _ _ e => k _ _ _ (h _ _ _ e)
theorem Rle.trans {F G K : Rho} (h : Rle F G) (k : Rle G K) : Rle F K := fun _ _ _ e => k _ _ _ (h _ _ _ e)

theorem RelT.mono {F F' : Fz} (hF : Fle F F') {v : V} {u : Value} (h : RelT F v u) : RelT F' v u := by
  induction h with
  | bool b => exact .bool b
  | int k n => exact .int k n
  | str s => exact .str s
  | nilp => exact .nilp
  | nils => exact .nils
  | nilf => exact .nilf
  | fn f => exact .fn f
  | tsl z es A cap g o u h1 h2 h3 h4 h5 h6 ih => exact .tsl z es A cap g o u h1 h2 h3 (fun i e j v he hv => hF _ _ _ (h4 i e j v he hv)) ih h6
  | tptr cs o g base u h1 h2 ih => exact .tptr cs o g base u (fun j v hv => hF _ _ _ (h1 j v hv)) ih
theorem Rel.mono {ρ ρ' : Rho} {F F' : Fz} (hR : Rle ρ ρ') (hF : Fle F F') {v : V} {u : Value} (h : Rel ρ F v u) : Rel ρ' F' v u := by
  induction h with
  | t h => exact .t (h.mono hF)
  | undef u => exact .undef u
  | ptr b L i o r h => exact .ptr b L i o r (hR _ _ _ h)
  | sl b L o n c r h h1 h2 h3 => exact .sl b L o n c r (hR _ _ _ h) h1 h2 h3
  | fn f cs us h1 h2 ih => exact .fn f cs us h1 ih
  | agg cs us h1 h2 h3 ih => exact .agg cs us h1 ih h3
  | tup cs us h1 h2 ih => exact .tup cs us h1 ih
  | mp b r h h1 => exact .mp b r (hR _ _ _ h) h1

/-- a value without references does not look at the heap -/
theorem Rel.tree {ρ : Rho} {F : Fz} {v : V} {u : Value} (h : Rel ρ F v u) (ht : v.tree = true) : RelT F v u := by
  cases h with
  | t h => exact h
  | undef u => simp [V.tree] at ht
  | ptr b L i o r h => simp [V.tree] at ht
  | sl b L o n c r h h1 h2 h3 => simp [V.tree] at ht
  | fn f cs us h1 h2 =>
    cases cs with
    | nil =>
      have : us = [] := by cases us with | nil => rfl | cons a l => simp at h1
      subst this
      exact .fn f
    | cons a l => simp [V.tree] at ht
  | agg cs us h1 h2 h3 => simp [V.tree] at ht
  | tup cs us h1 h2 => simp [V.tree] at ht
  | mp b r h h1 => simp [V.tree] at ht
theorem RelT.flat {F F' : Fz} {v : V} {u : Value} (h : RelT F v u) (ht : v.flat = true) : RelT F' v u := by
  cases h with
  | bool b => exact .bool b
  | int k n => exact .int k n
  | str s => exact .str s
  | nilp => exact .nilp
  | nils => exact .nils
  | nilf => exact .nilf
  | fn f => simp [V.flat] at ht
  | tsl z es A cap g o u h1 h2 h3 h4 h5 h6 => simp [V.flat] at ht
  | tptr cs o g base u h1 h2 => simp [V.flat] at ht
theorem V.tree_of_flat {v : V} (h : v.flat = true) : v.tree = true := by cases v <;> simp_all [V.flat, V.tree]
theorem V.cell_of_tree {v : V} (h : v.tree = true) : v.cell = true := by cases v <;> simp_all [V.cell, V.tree]
theorem RelT.oneCell {F : Fz} {v : V} {u : Value} (h : RelT F v u) : oneC u = true := by cases h <;> rfl
theorem Rel.oneCell {ρ : Rho} {F : Fz} {v : V} {u : Value} (h : Rel ρ F v u) (hc : v.cell = true) : oneC u = true := by
  cases h with
  | t h => exact h.oneCell
  | undef u => simp [V.cell] at hc
  | ptr b L i o r h => rfl
  | sl b L o n c r h h1 h2 h3 => rfl
  | fn f cs us h1 h2 => rfl
  | agg cs us h1 h2 h3 => simp [V.cell] at hc
  | tup cs us h1 h2 => simp [V.cell] at hc
  | mp b r h h1 => rfl

/-- the cells of a value, one for one -/
def RelL (ρ : Rho) (F : Fz) (cs : List V) (us : List Value) : Prop := cs.length = us.length ∧ ∀ (j : Nat) (v : V) (u : Value), cs[j]? = some v → us[j]? = some u → Rel ρ F v u
theorem RelL.nil {ρ : Rho} {F : Fz} : RelL ρ F [] [] := ⟨rfl, by simp⟩
theorem RelL.cons {ρ : Rho} {F : Fz} {v : V} {u : Value} {cs : List V} {us : List Value} (h : Rel ρ F v u) (hs : RelL ρ F cs us) : RelL ρ F (v :: cs) (u :: us) := by
  refine ⟨by simp [hs.1], fun j a b ha hb => ?_⟩
  cases j with
  | zero => simp at ha hb; subst ha hb; exact h
  | succ j => exact hs.2 j a b (by simpa using ha) (by simpa using hb)
theorem RelL.head {ρ : Rho} {F : Fz} {v : V} {u : Value} {cs : List V} {us : List Value} (h : RelL ρ F (v :: cs) (u :: us)) : Rel ρ F v u := h.2 0 v u rfl rfl
theorem RelL.tail {ρ : Rho} {F : Fz} {v : V} {u : Value} {cs : List V} {us : List Value} (h : RelL ρ F (v :: cs) (u :: us)) : RelL ρ F cs us :=
  ⟨by simpa using h.1, fun j a b ha hb => h.2 (j + 1) a b (by simpa using ha) (by simpa using hb)⟩
theorem RelL.mono {ρ ρ' : Rho} {F F' : Fz} (hR : Rle ρ ρ') (hF : Fle F F') {cs : List V} {us : List Value} (h : RelL ρ F cs us) : RelL ρ' F' cs us :=
  ⟨h.1, fun j a b ha hb => (h.2 j a b ha hb).mono hR hF⟩
theorem RelL.get {ρ : Rho} {F : Fz} {cs : List V} {us : List Value} (h : RelL ρ F cs us) {j : Nat} {v : V} (hv : cs[j]? = some v) : ∃ u, us[j]? = some u ∧ Rel ρ F v u := by
  obtain ⟨hj, _⟩ := List.getElem?_eq_some_iff.1 hv
  have hj' : j < us.length := by rw [← h.1]; exact hj
  exact ⟨us[j], List.getElem?_eq_getElem hj', h.2 j v _ hv (List.getElem?_eq_getElem hj')⟩
theorem RelL.append {ρ : Rho} {F : Fz} {as bs : List V} {us vs : List Value} (h : RelL ρ F as us) (k : RelL ρ F bs vs) : RelL ρ F (as ++ bs) (us ++ vs) := by
  refine ⟨by simp [h.1, k.1], fun j a b ha hb => ?_⟩
  by_cases hj : j < as.length
  · rw [List.getElem?_append_left hj] at ha
    rw [List.getElem?_append_left (by rw [← h.1]; exact hj)] at hb
    exact h.2 j a b ha hb
  · rw [List.getElem?_append_right (by omega)] at ha
    rw [List.getElem?_append_right (by rw [← h.1]; omega), ← h.1] at hb
    exact k.2 _ a b ha hb
theorem RelL.drop {ρ : Rho} {F : Fz} {as : List V} {us : List Value} (h : RelL ρ F as us) (n : Nat) : RelL ρ F (as.drop n) (us.drop n) :=
  ⟨by simp [h.1], fun j a b ha hb => h.2 (n + j) a b (by simpa using ha) (by simpa using hb)⟩
theorem RelL.take {ρ : Rho} {F : Fz} {as : List V} {us : List Value} (h : RelL ρ F as us) (n : Nat) : RelL ρ F (as.take n) (us.take n) := by
  refine ⟨by simp [h.1], fun j a b ha hb => ?_⟩
  rw [List.getElem?_take] at ha hb
  split at ha
  · rename_i hj
    rw [if_pos hj] at hb
    exact h.2 j a b ha hb
  · cases ha
theorem RelL.set {ρ : Rho} {F : Fz} {as : List V} {us : List Value} (h : RelL ρ F as us) (i : Nat) {v : V} {u : Value} (k : Rel ρ F v u) : RelL ρ F (as.set i v) (us.set i u) := by
  refine ⟨by simp [h.1], fun j a b ha hb => ?_⟩
  rw [List.getElem?_set] at ha hb
  split at ha
  · rename_i hj
    subst hj
    split at ha
    · rw [if_pos rfl] at hb
      split at hb
      · simp at ha hb; subst ha hb; exact k
      · cases hb
    · cases ha
  · rename_i hj
    rw [if_neg hj] at hb
    exact h.2 j a b ha hb
/-- the cells of a value -/
theorem Rel.cells {ρ : Rho} {F : Fz} {v : V} {u : Value} (h : Rel ρ F v u) (hc : v.cells.all V.cell = true) : RelL ρ F v.cells u.cells.toList := by
  cases h with
  | t h => cases h <;> exact RelL.cons (.t (by first | assumption | constructor <;> assumption)) .nil
  | undef u => simp [V.cells, V.cell] at hc
  | ptr b L i o r h => exact RelL.cons (.ptr b L i o r h) .nil
  | sl b L o n c r h h1 h2 h3 => exact RelL.cons (.sl b L o n c r h h1 h2 h3) .nil
  | fn f cs us h1 h2 => exact RelL.cons (.fn f cs us h1 h2) .nil
  | agg cs us h1 h2 h3 => exact ⟨by simpa [V.cells, Value.cells] using h1, by simpa [V.cells, Value.cells] using h2⟩
  | tup cs us h1 h2 => simp [V.cells, V.cell] at hc
  | mp b r h h1 => exact RelL.cons (.mp b r h h1) .nil

/-! ### The heap -/
/-- a map's row and its entry; the value is a struct's or an array's, or one cell's -/
def MRow (ρ : Rho) (F : Fz) (ag : Bool) (row : List V) (x : MapEntry) : Prop := ∃ k vs, row = k :: vs ∧ Rel ρ F k x.key ∧ (if ag then ∃ us, x.val = .agg us ∧ RelL ρ F vs us.toList else ∃ v, vs = [v] ∧ Rel ρ F v x.val)
theorem MRow.mono {ρ ρ' : Rho} {F F' : Fz} (hR : Rle ρ ρ') (hF : Fle F F') {ag : Bool} {row : List V} {x : MapEntry} (h : MRow ρ F ag row x) : MRow ρ' F' ag row x := by
  obtain ⟨k, vs, h1, h2, h3⟩ := h
  refine ⟨k, vs, h1, h2.mono hR hF, ?_⟩
  cases ag with
  | true => obtain ⟨us, h4, h5⟩ := h3; exact ⟨us, h4, h5.mono hR hF⟩
  | false => obtain ⟨v, h4, h5⟩ := h3; exact ⟨v, h4, h5.mono hR hF⟩
theorem MRow.trees {ρ ρ' : Rho} {F : Fz} {ag : Bool} {row : List V} {x : MapEntry} (ht : ∀ v ∈ row, v.tree = true) (h : MRow ρ F ag row x) : MRow ρ' F ag row x := by
  obtain ⟨k, vs, rfl, h2, h3⟩ := h
  refine ⟨k, vs, rfl, .t (h2.tree (ht k (by simp))), ?_⟩
  cases ag with
  | true =>
    obtain ⟨us, h4, h5⟩ := h3
    exact ⟨us, h4, h5.1, fun j v u hv hu => .t ((h5.2 j v u hv hu).tree (ht v (List.mem_cons_of_mem _ (List.mem_of_getElem? hv))))⟩
  | false =>
    obtain ⟨v, rfl, h5⟩ := h3
    exact ⟨v, rfl, .t (h5.tree (ht v (by simp)))⟩
theorem MRow.flat {ρ ρ' : Rho} {F F' : Fz} {ag : Bool} {row : List V} {x : MapEntry} (ht : ∀ v ∈ row, v.flat = true) (h : MRow ρ F ag row x) : MRow ρ' F' ag row x := by
  obtain ⟨k, vs, rfl, h2, h3⟩ := h
  refine ⟨k, vs, rfl, .t ((h2.tree (V.tree_of_flat (ht k (by simp)))).flat (ht k (by simp))), ?_⟩
  cases ag with
  | true =>
    obtain ⟨us, h4, h5⟩ := h3
    exact ⟨us, h4, h5.1, fun j v u hv hu => have hf := ht v (List.mem_cons_of_mem _ (List.mem_of_getElem? hv)); .t (((h5.2 j v u hv hu).tree (V.tree_of_flat hf)).flat hf)⟩
  | false =>
    obtain ⟨v, rfl, h5⟩ := h3
    exact ⟨v, rfl, .t ((h5.tree (V.tree_of_flat (ht v (by simp)))).flat (ht v (by simp)))⟩
/-- so many entries; the moments of their making differ and lie in the past -/
structure EnsOk (ens : Array MapEntry) (clock n : Nat) : Prop where
  size : ens.size = n
  past : ∀ x ∈ ens.toList, x.born < clock
  once : (ens.toList.map (·.born)).Nodup
/-- a map -/
def MapOk (ρ : Rho) (F : Fz) (w : World) (h : Blk) (r : RB) : Prop := h.box = false ∧ ∃ ag e es ens clock, h.es = (.bool ag :: e) :: es ∧ w.heap[r.blk]? = some (.map ens clock) ∧ EnsOk ens clock es.length ∧ ∀ (i : Nat) (row : List V) (x : MapEntry), es[i]? = some row → ens[i]? = some x → MRow ρ F ag row x
theorem MapOk.mono {ρ ρ' : Rho} {F F' : Fz} {w w' : World} {h : Blk} {r : RB} (hR : Rle ρ ρ') (hF : Fle F F') (hw : w'.heap[r.blk]? = w.heap[r.blk]?) (k : MapOk ρ F w h r) : MapOk ρ' F' w' h r := by
  obtain ⟨h0, ag, e, es, ens, clock, h1, h2, h3, h4⟩ := k
  exact ⟨h0, ag, e, es, ens, clock, h1, hw.trans h2, h3, fun i row x hi hx => (h4 i row x hi hx).mono hR hF⟩
theorem MapOk.es {ρ : Rho} {F : Fz} {w : World} {h : Blk} {r : RB} (k : MapOk ρ F w h r) : h.es.length ≠ 0 := by
  obtain ⟨h0, ag, e, es, ens, clock, h1, h2, h3, h4⟩ := k
  rw [h1]; simp
structure Sim (ρ : Rho) (F : Fz) (H : Heap) (w : World) : Prop where
  img : ∀ b L r, ρ b L = some r → b < H.length ∧ r.blk < w.heap.size
  blk : ∀ (b : Nat) (h : Blk) (r : RB), H[b]? = some h → ρ b h.es.length = some r → ∃ cur, w.heap[r.blk]? = some (.cells cur r.ty (0, 0)) ∧ cur.size = r.cap * r.z ∧ r.z = h.z ∧ h.es.length ≤ r.cap ∧
    ∀ (i : Nat) (e : List V) (j : Nat) (v : V), h.es[i]? = some e → e[j]? = some v → ∃ u, cur[i * h.z + j]? = some u ∧ Rel ρ F v u
  fz : ∀ (b : Nat) (h : Blk) (r : RB) (o : Nat) (x : Value), H[b]? = some h → ρ b h.es.length = some r → F r.blk o = some x → o < h.fz * h.z
  len : ∀ (b : Nat) (h : Blk) (L : Nat) (r : RB), H[b]? = some h → ρ b L = some r → L ≤ h.es.length
  inj : ∀ b1 L1 r1 b2 L2 r2, ρ b1 L1 = some r1 → ρ b2 L2 = some r2 → r1.blk = r2.blk → b1 = b2
  frz : ∀ g o x, F g o = some x → w.cell? ⟨g, o, .none⟩ = some x
  mp : ∀ (b : Nat) (h : Blk) (r : RB), H[b]? = some h → ρ b 0 = some r → r.z = 0 → MapOk ρ F w h r ∧ ∀ L r', ρ b L = some r' → L = 0

/-- a block that is a slice's or a variable's is no map -/
theorem Sim.noMap {ρ : Rho} {F : Fz} {H : Heap} {w : World} (h : Sim ρ F H w) {b : Nat} {k : Blk} {r r0 : RB} (hb : H[b]? = some k) (hr : ρ b k.es.length = some r) (h0 : ρ b 0 = some r0) (hz : r0.z = 0) : False := by
  obtain ⟨h1, h2⟩ := h.mp b k r0 hb h0 hz
  exact h1.es (h2 _ _ hr)
/-- what the executor's heap itself keeps -/
structure BlkOk (h : Blk) : Prop where
  z : ∀ e ∈ h.es, e.length = h.z
  cell : ∀ e ∈ h.es, ∀ v ∈ e, v.cell = true
  box : h.box = true → h.es.length = 1
  tree : h.box = false → ∀ e ∈ h.es, ∀ v ∈ e, v.tree = true
  flat : h.flat = true → ∀ e ∈ h.es, ∀ v ∈ e, v.flat = true
def HOk (H : Heap) : Prop := ∀ h ∈ H, BlkOk h

/-- what a step does: the model's memory outside of the heap's blocks is as it was -/
structure Ext (ρ : Rho) (F : Fz) (w : World) (ρ' : Rho) (F' : Fz) (w' : World) : Prop where
  os : w'.os = w.os
  tape : w'.tape = w.tape
  output : w'.output = w.output
  size : w.heap.size ≤ w'.heap.size
  keep : ∀ g, g < w.heap.size → (∀ b L r, ρ b L = some r → r.blk ≠ g) → w'.heap[g]? = w.heap[g]?
  rho : Rle ρ ρ'
  new : ∀ b L r, ρ' b L = some r → (∃ L0 r0, ρ b L0 = some r0 ∧ r0.blk = r.blk) ∨ w.heap.size ≤ r.blk
  fle : Fle F F'
  fnew : ∀ g o x, F' g o = some x → F g o = some x ∨ w.heap.size ≤ g ∨ ∃ b L r, ρ b L = some r ∧ r.blk = g
theorem Ext.refl (ρ : Rho) (F : Fz) (w : World) : Ext ρ F w ρ F w :=
  ⟨rfl, rfl, rfl, Nat.le_refl _, fun _ _ _ => rfl, .refl _, fun b L r h => .inl ⟨L, r, h, rfl⟩, .refl _, fun _ _ _ h => .inl h⟩
theorem Ext.trans {ρ ρ' ρ'' : Rho} {F F' F'' : Fz} {w w' w'' : World} (h : Ext ρ F w ρ' F' w') (k : Ext ρ' F' w' ρ'' F'' w'') : Ext ρ F w ρ'' F'' w'' := by
  have hs := h.size
  refine ⟨k.os.trans h.os, k.tape.trans h.tape, k.output.trans h.output, Nat.le_trans h.size k.size, fun g hg hn => ?_, h.rho.trans k.rho, fun b L r hr => ?_, h.fle.trans k.fle, fun g o x hx => ?_⟩
  · rw [k.keep g (by omega) (fun b L r hr he => ?_), h.keep g hg hn]
    rcases h.new b L r hr with ⟨L0, r0, h0, e0⟩ | h1
    · exact hn b L0 r0 h0 (e0.trans he)
    · omega
  · rcases k.new b L r hr with ⟨L0, r0, h0, e0⟩ | h1
    · rcases h.new b L0 r0 h0 with ⟨L1, r1, h1, e1⟩ | h1
      · exact .inl ⟨L1, r1, h1, e1.trans e0⟩
      · right; omega
    · right; omega
  · rcases k.fnew g o x hx with h1 | h1 | ⟨b, L, r, hr, he⟩
    · exact h.fnew g o x h1
    · right; left; omega
    · rcases h.new b L r hr with ⟨L0, r0, h0, e0⟩ | h1
      · right; right; exact ⟨b, L0, r0, h0, e0.trans he⟩
      · right; left; omega
/-- a call that is handed nothing leaves all of memory as it was -/
theorem Ext.below {F F' : Fz} {w w' : World} {ρ' : Rho} (h : Ext Rho.none F w ρ' F' w') : Below w.heap.size w w' :=
  ⟨h.os, h.tape, h.output, h.size, fun g hg => h.keep g hg (fun b L r hr => by simp [Rho.none] at hr)⟩

theorem getElem?_push' {α : Type} (a : Array α) (x : α) (i : Nat) : (a.push x)[i]? = if i = a.size then some x else a[i]? := Array.getElem?_push

/-- the frozen cells are where they were, wherever memory outside of the heap's blocks alone has grown -/
theorem Sim.drawn {ρ : Rho} {F : Fz} {H : Heap} {w : World} (h : Sim ρ F H w) (n : Nat) : Sim ρ F H { w with drawn := n } :=
  ⟨h.img, h.blk, h.fz, h.len, h.inj, h.frz, h.mp⟩
theorem Ext.drawn (ρ : Rho) (F : Fz) (w : World) (n : Nat) : Ext ρ F w ρ F { w with drawn := n } :=
  ⟨rfl, rfl, rfl, Nat.le_refl _, fun _ _ _ => rfl, .refl _, fun b L r h => .inl ⟨L, r, h, rfl⟩, .refl _, fun _ _ _ h => .inl h⟩
end Go.AM
