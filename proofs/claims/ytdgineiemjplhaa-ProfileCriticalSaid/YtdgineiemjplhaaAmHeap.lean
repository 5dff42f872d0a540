/- What the steps on the heap do to the relation between the executor's heap and the model's memory. -/
import Derived.Test.YtdgineiemjplhaaAmRel
import Derived.Laws.CopyRow
import Derived.Laws.AppendOwn
import Derived.Laws.MakeOwn
import Derived.Laws.Rows
set_option linter.unusedVariables false
namespace Go.AM
open Go Go.RowKit

def Rho.add (ρ : Rho) (b L : Nat) (r : RB) : Rho := fun b' L' => if b' = b ∧ L' = L then some r else ρ b' L'
theorem Rho.add_same (ρ : Rho) (b L : Nat) (r : RB) : ρ.add b L r b L = some r := by simp [Rho.add]
theorem Rho.add_le {ρ : Rho} {b L : Nat} {r : RB} (h : ∀ r', ρ b L = some r' → r' = r) : Rle ρ (ρ.add b L r) := by
  intro b' L' r' hr
  unfold Rho.add
  split
  · rename_i e
    obtain ⟨rfl, rfl⟩ := e
    rw [h r' hr]
  · exact hr

section
variable {ρ : Rho} {F : Fz} {H : Heap} {w : World}

theorem cell_lt {g o : Nat} {x : Value} (h : w.cell? ⟨g, o, .none⟩ = some x) : g < w.heap.size := block_lt_of_cell h
theorem cell_of {g o : Nat} {cs : Array Value} {t : TypeId} {fr : Nat × Nat} (h : w.heap[g]? = some (.cells cs t fr)) : w.cell? ⟨g, o, .none⟩ = cs[o]? := cell_of_row w g o cs t fr h

/-- memory has grown -/
theorem Sim.move {w' : World} (h : Sim ρ F H w) (hs : w.heap.size ≤ w'.heap.size) (hk : ∀ g, g < w.heap.size → w'.heap[g]? = w.heap[g]?) : Sim ρ F H w' := by
  refine ⟨fun b L r hr => ⟨(h.img b L r hr).1, Nat.lt_of_lt_of_le (h.img b L r hr).2 hs⟩, fun b k r hb hr => ?_, h.fz, h.len, h.inj, fun g o x hx => ?_, fun b k r hb hr hz => ⟨(h.mp b k r hb hr hz).1.mono (.refl _) (.refl _) (hk _ (h.img b _ r hr).2), (h.mp b k r hb hr hz).2⟩⟩
  · obtain ⟨cur, hc, hrest⟩ := h.blk b k r hb hr
    exact ⟨cur, by rw [hk r.blk (h.img b _ r hr).2]; exact hc, hrest⟩
  · have := h.frz g o x hx
    rw [← this]
    exact World.cell?_of_block (w := w) (hk g (cell_lt this))
theorem Ext.move (ρ : Rho) (F : Fz) {w w' : World} (ho : w'.os = w.os) (ht : w'.tape = w.tape) (hp : w'.output = w.output) (hs : w.heap.size ≤ w'.heap.size) (hk : ∀ g, g < w.heap.size → w'.heap[g]? = w.heap[g]?) :
    Ext ρ F w ρ F w' :=
  ⟨ho, ht, hp, hs, fun g hg _ => hk g hg, .refl _, fun b L r h => .inl ⟨L, r, h, rfl⟩, .refl _, fun _ _ _ h => .inl h⟩

/-- the elements of a block and the cells of the model's -/
def RelB (ρ : Rho) (F : Fz) (z : Nat) (es : List (List V)) (cur : Array Value) : Prop :=
  ∀ (i : Nat) (e : List V) (j : Nat) (v : V), es[i]? = some e → e[j]? = some v → ∃ u, cur[i * z + j]? = some u ∧ Rel ρ F v u
theorem RelB.mono {ρ' : Rho} {F' : Fz} (hR : Rle ρ ρ') (hF : Fle F F') {z : Nat} {es : List (List V)} {cur : Array Value} (h : RelB ρ F z es cur) : RelB ρ' F' z es cur :=
  fun i e j v he hv => let ⟨u, hu, hr⟩ := h i e j v he hv; ⟨u, hu, hr.mono hR hF⟩

theorem HOk.append {H K : Heap} (h : HOk H) (k : HOk K) : HOk (H ++ K) := fun b hb => (List.mem_append.1 hb).elim (h b) (k b)
theorem HOk.one {h : Blk} (k : BlkOk h) : HOk [h] := fun b hb => by rw [List.mem_singleton.1 hb]; exact k
theorem HOk.set {H : Heap} {h : Blk} (hH : HOk H) (k : BlkOk h) (b : Nat) : HOk (H.set b h) := fun x hx => (List.mem_or_eq_of_mem_set hx).elim (hH x) (fun e => e ▸ k)
theorem HOk.get {H : Heap} (h : HOk H) {b : Nat} {k : Blk} (hb : H[b]? = some k) : BlkOk k := h k (List.mem_of_getElem? hb)

/-- a new block -/
theorem Sim.alloc (h : Sim ρ F H w) {w' : World} {k : Blk} {cur : Array Value} {ty : TypeId} {cap : Nat} (ho : w'.os = w.os) (ht : w'.tape = w.tape) (hp : w'.output = w.output)
    (hw : w'.heap = w.heap.push (.cells cur ty (0, 0))) (hc : cur.size = cap * k.z) (hcap : k.es.length ≤ cap) (hr : RelB ρ F k.z k.es cur) (hz0 : k.es.length = 0 → k.z ≠ 0) :
    Ext ρ F w (ρ.add H.length k.es.length ⟨w.heap.size, k.z, ty, cap⟩) F w' ∧ Sim (ρ.add H.length k.es.length ⟨w.heap.size, k.z, ty, cap⟩) F (H ++ [k]) w' := by
  have hs : w'.heap.size = w.heap.size + 1 := by rw [hw]; simp
  have hk : ∀ g, g < w.heap.size → w'.heap[g]? = w.heap[g]? := fun g hg => by rw [hw, Array.getElem?_push, if_neg (by omega)]
  have hnew : w'.heap[w.heap.size]? = some (.cells cur ty (0, 0)) := by rw [hw, Array.getElem?_push, if_pos rfl]
  have hno : ∀ L r, ρ H.length L = some r → False := fun L r hr => by have := (h.img _ _ _ hr).1; omega
  have hle : Rle ρ (ρ.add H.length k.es.length ⟨w.heap.size, k.z, ty, cap⟩) := Rho.add_le fun r' hr' => (hno _ _ hr').elim
  have hm := h.move (w' := w') (by omega) hk
  refine ⟨⟨ho, ht, hp, by omega, fun g hg _ => hk g hg, hle, fun b L r hr => ?_, .refl _, fun _ _ _ h => .inl h⟩, ?_⟩
  · unfold Rho.add at hr
    split at hr
    · injection hr with hr
      subst hr
      exact .inr (Nat.le_refl _)
    · exact .inl ⟨L, r, hr, rfl⟩
  refine ⟨fun b L r hr => ?_, fun b k' r hb hr => ?_, fun b k' r o x hb hr hx => ?_, fun b k' L r hb hr => ?_, fun b1 L1 r1 b2 L2 r2 h1 h2 he => ?_, hm.frz, fun b k' r hb hr hz => ?_⟩
  · unfold Rho.add at hr
    split at hr
    · rename_i e
      injection hr with hr
      subst hr
      rw [e.1]
      simp only [List.length_append, List.length_singleton]
      omega
    · have := hm.img b L r hr
      simp only [List.length_append, List.length_singleton]
      omega
  · unfold Rho.add at hr
    split at hr
    · rename_i e
      injection hr with hr
      subst hr
      rw [e.1, List.getElem?_append_right (Nat.le_refl _)] at hb
      simp at hb
      subst hb
      exact ⟨cur, hnew, hc, rfl, hcap, hr.mono hle (.refl _)⟩
    · have hlt := (h.img b _ r hr).1
      rw [List.getElem?_append_left hlt] at hb
      obtain ⟨c, h1, h2, h3, h4, h5⟩ := hm.blk b k' r hb hr
      exact ⟨c, h1, h2, h3, h4, RelB.mono hle (.refl _) h5⟩
  · unfold Rho.add at hr
    split at hr
    · injection hr with hr
      subst hr
      have := cell_lt (h.frz _ _ _ hx)
      simp at this
    · have hlt := (h.img b _ r hr).1
      rw [List.getElem?_append_left hlt] at hb
      exact h.fz b k' r o x hb hr hx
  · unfold Rho.add at hr
    split at hr
    · rename_i e
      rw [e.1, List.getElem?_append_right (Nat.le_refl _)] at hb
      simp at hb
      subst hb
      omega
    · have hlt := (h.img b _ r hr).1
      rw [List.getElem?_append_left hlt] at hb
      exact h.len b k' L r hb hr
  · unfold Rho.add at h1 h2
    split at h1 <;> split at h2
    · rename_i e1 e2; exact e1.1.trans e2.1.symm
    · injection h1 with h1; subst h1
      have := (h.img _ _ _ h2).2
      simp at he; omega
    · injection h2 with h2; subst h2
      have := (h.img _ _ _ h1).2
      simp at he; omega
    · exact h.inj b1 L1 r1 b2 L2 r2 h1 h2 he
  · by_cases e : b = H.length
    · subst e
      unfold Rho.add at hr
      split at hr
      · rename_i e
        injection hr with hr
        subst hr
        exact absurd hz (hz0 e.2.symm)
      · exact (hno _ _ hr).elim
    · have hr0 : ρ b 0 = some r := by
        unfold Rho.add at hr
        rwa [if_neg (fun h => e h.1)] at hr
      have hlt := (h.img b _ r hr0).1
      rw [List.getElem?_append_left hlt] at hb
      obtain ⟨m1, m2⟩ := hm.mp b k' r hb hr0 hz
      refine ⟨m1.mono hle (.refl _) rfl, fun L r' hr' => ?_⟩
      unfold Rho.add at hr'
      rw [if_neg (fun h => e h.1)] at hr'
      exact m2 L r' hr'

/-- a block is written, its length may grow in place -/
theorem Sim.write (h : Sim ρ F H w) {b : Nat} {k k' : Blk} {r : RB} {cur cur' : Array Value} (hb : H[b]? = some k) (hr : ρ b k.es.length = some r)
    (hc : w.heap[r.blk]? = some (.cells cur r.ty (0, 0))) (hsz : cur'.size = cur.size) (hz : k'.z = k.z) (hlen : k.es.length ≤ k'.es.length) (hcap : k'.es.length ≤ r.cap) (hfz : k.fz ≤ k'.fz)
    (hkeep : ∀ o x, F r.blk o = some x → cur'[o]? = cur[o]?) (hrel : RelB (ρ.add b k'.es.length r) F k.z k'.es cur') :
    Ext ρ F w (ρ.add b k'.es.length r) F (w.setRow r.blk cur') ∧ Sim (ρ.add b k'.es.length r) F (H.set b k') (w.setRow r.blk cur') := by
  obtain ⟨cur0, hc0, hsz0, hz0, hcap0, hrel0⟩ := h.blk b k r hb hr
  rw [hc] at hc0
  injection hc0 with hc0
  injection hc0 with hc0 _ _
  subst hc0
  have hblt : b < H.length := (List.getElem?_eq_some_iff.1 hb).1
  have hsame : ∀ r', ρ b k'.es.length = some r' → r' = r := fun r' hr' => by
    have := h.len b k _ r' hb hr'
    have e : k'.es.length = k.es.length := by omega
    rw [e, hr] at hr'
    exact (Option.some.inj hr').symm
  have hle : Rle ρ (ρ.add b k'.es.length r) := Rho.add_le hsame
  have hoth : ∀ g, g ≠ r.blk → (w.setRow r.blk cur').heap[g]? = w.heap[g]? := fun g hg => setRow_other w r.blk g cur' hg
  refine ⟨⟨rfl, rfl, rfl, by simp, fun g hg hn => hoth g (fun e => hn b _ r hr e.symm), hle, fun b' L r' hr' => ?_, .refl _, fun _ _ _ h => .inl h⟩, ?_⟩
  · unfold Rho.add at hr'
    split at hr'
    · rename_i e
      injection hr' with hr'
      subst hr'
      rw [e.1]
      exact .inl ⟨_, r, hr, rfl⟩
    · exact .inl ⟨L, r', hr', rfl⟩
  refine ⟨fun b' L r' hr' => ?_, fun b' q r' hb' hr' => ?_, fun b' q r' o x hb' hr' hx => ?_, fun b' q L r' hb' hr' => ?_, fun b1 L1 r1 b2 L2 r2 h1 h2 he => ?_, fun g o x hx => ?_, fun b' q r' hb' hr' hz' => ?_⟩
  · unfold Rho.add at hr'
    simp only [List.length_set, setRow_size]
    split at hr'
    · rename_i e
      injection hr' with hr'
      subst hr'
      rw [e.1]
      exact h.img b _ r hr
    · exact h.img b' L r' hr'
  · rw [List.getElem?_set] at hb'
    split at hb'
    · rename_i e
      subst e
      try rw [if_pos hblt] at hb'
      injection hb' with hb'
      subst hb'
      rw [Rho.add_same] at hr'
      injection hr' with hr'
      subst hr'
      exact ⟨cur', setRow_heap w r.blk cur cur' r.ty (0, 0) hc, by rw [hsz, hsz0], by rw [hz, hz0], hcap, by rw [hz]; exact hrel⟩
    · rename_i e
      have hne : ¬ (b' = b ∧ q.es.length = k'.es.length) := fun h => e h.1.symm
      unfold Rho.add at hr'
      rw [if_neg hne] at hr'
      obtain ⟨c, h1, h2, h3, h4, h5⟩ := h.blk b' q r' hb' hr'
      have hbb : r'.blk ≠ r.blk := fun he => e (h.inj b' _ r' b _ r hr' hr he).symm
      exact ⟨c, by rw [hoth _ hbb]; exact h1, h2, h3, h4, RelB.mono hle (.refl _) h5⟩
  · rw [List.getElem?_set] at hb'
    split at hb'
    · rename_i e
      subst e
      try rw [if_pos hblt] at hb'
      injection hb' with hb'
      subst hb'
      rw [Rho.add_same] at hr'
      injection hr' with hr'
      subst hr'
      have h1 := h.fz b k r o x hb hr hx
      rw [hz]
      exact Nat.lt_of_lt_of_le h1 (Nat.mul_le_mul_right _ hfz)
    · rename_i e
      have hne : ¬ (b' = b ∧ q.es.length = k'.es.length) := fun h => e h.1.symm
      unfold Rho.add at hr'
      rw [if_neg hne] at hr'
      exact h.fz b' q r' o x hb' hr' hx
  · rw [List.getElem?_set] at hb'
    unfold Rho.add at hr'
    split at hb'
    · rename_i e
      subst e
      try rw [if_pos hblt] at hb'
      injection hb' with hb'
      subst hb'
      split at hr'
      · rename_i e; omega
      · exact Nat.le_trans (h.len b k L r' hb hr') hlen
    · rename_i e
      rw [if_neg (fun h => e h.1.symm)] at hr'
      exact h.len b' q L r' hb' hr'
  · unfold Rho.add at h1 h2
    split at h1 <;> split at h2
    · rename_i e1 e2; exact e1.1.trans e2.1.symm
    · rename_i e1 _
      injection h1 with h1; subst h1
      rw [e1.1]
      exact h.inj b _ r b2 L2 r2 hr h2 he
    · rename_i _ e2
      injection h2 with h2; subst h2
      rw [e2.1]
      exact h.inj b1 L1 r1 b _ r h1 hr he
    · exact h.inj b1 L1 r1 b2 L2 r2 h1 h2 he
  · have h0 := h.frz g o x hx
    by_cases hg : g = r.blk
    · subst hg
      rw [cell_setRow_same w r.blk o cur cur' r.ty (0, 0) hc, hkeep o x hx]
      rw [cell_of hc] at h0
      exact h0
    · rw [cell_setRow_other w r.blk cur' ⟨g, o, .none⟩ hg]
      exact h0
  · have hr0 : ρ b' 0 = some r' := by
      unfold Rho.add at hr'
      split at hr'
      · rename_i e
        injection hr' with hr'
        subst hr'
        have e2 : k.es.length = 0 := by omega
        rw [e.1, ← e2]; exact hr
      · exact hr'
    by_cases e : b' = b
    · subst e
      exact (h.noMap hb hr hr0 hz').elim
    · rw [List.getElem?_set_ne (fun h => e h.symm)] at hb'
      obtain ⟨m1, m2⟩ := h.mp b' q r' hb' hr0 hz'
      refine ⟨m1.mono hle (.refl _) (hoth _ (fun e' => e (h.inj b' _ r' b _ r hr0 hr e'))), fun L r2 hr2 => ?_⟩
      unfold Rho.add at hr2
      rw [if_neg (fun h => e h.1)] at hr2
      exact m2 L r2 hr2

/-- an append has moved a block to new memory -/
theorem Sim.regrow (h : Sim ρ F H w) {w' : World} {b : Nat} {k k' : Blk} {r : RB} {cur' : Array Value} {cap : Nat} {ty : TypeId} (hb : H[b]? = some k) (hr : ρ b k.es.length = some r)
    (ho : w'.os = w.os) (ht : w'.tape = w.tape) (hp : w'.output = w.output) (hw : w'.heap = w.heap.push (.cells cur' ty (0, 0))) (hsz : cur'.size = cap * k'.z) (hz : k'.z = k.z) (hlen : k.es.length < k'.es.length) (hcap : k'.es.length ≤ cap)
    (hrel : RelB ρ F k.z k'.es cur') :
    Ext ρ F w (ρ.add b k'.es.length ⟨w.heap.size, k.z, ty, cap⟩) F w' ∧ Sim (ρ.add b k'.es.length ⟨w.heap.size, k.z, ty, cap⟩) F (H.set b k') w' := by
  have hs : w'.heap.size = w.heap.size + 1 := by rw [hw]; simp
  have hk : ∀ g, g < w.heap.size → w'.heap[g]? = w.heap[g]? := fun g hg => by rw [hw, Array.getElem?_push, if_neg (by omega)]
  have hnew : w'.heap[w.heap.size]? = some (.cells cur' ty (0, 0)) := by rw [hw, Array.getElem?_push, if_pos rfl]
  have hblt : b < H.length := (List.getElem?_eq_some_iff.1 hb).1
  have hsame : ∀ r', ρ b k'.es.length = some r' → r' = (⟨w.heap.size, k.z, ty, cap⟩ : RB) := fun r' hr' => by
    have := h.len b k _ r' hb hr'
    omega
  have hle : Rle ρ (ρ.add b k'.es.length ⟨w.heap.size, k.z, ty, cap⟩) := Rho.add_le hsame
  have hm := h.move (w' := w') (by omega) hk
  refine ⟨⟨ho, ht, hp, by omega, fun g hg _ => hk g hg, hle, fun b' L r' hr' => ?_, .refl _, fun _ _ _ h => .inl h⟩, ?_⟩
  · unfold Rho.add at hr'
    split at hr'
    · injection hr' with hr'
      subst hr'
      exact .inr (Nat.le_refl _)
    · exact .inl ⟨L, r', hr', rfl⟩
  refine ⟨fun b' L r' hr' => ?_, fun b' q r' hb' hr' => ?_, fun b' q r' o x hb' hr' hx => ?_, fun b' q L r' hb' hr' => ?_, fun b1 L1 r1 b2 L2 r2 h1 h2 he => ?_, hm.frz, fun b' q r' hb' hr' hz' => ?_⟩
  · unfold Rho.add at hr'
    simp only [List.length_set]
    split at hr'
    · rename_i e
      injection hr' with hr'
      subst hr'
      rw [e.1]
      exact ⟨hblt, by simp only; omega⟩
    · exact hm.img b' L r' hr'
  · rw [List.getElem?_set] at hb'
    split at hb'
    · rename_i e
      subst e
      try rw [if_pos hblt] at hb'
      injection hb' with hb'
      subst hb'
      rw [Rho.add_same] at hr'
      injection hr' with hr'
      subst hr'
      exact ⟨cur', hnew, by rw [hsz, hz], hz.symm, hcap, by rw [hz]; exact hrel.mono hle (.refl _)⟩
    · rename_i e
      have hne : ¬ (b' = b ∧ q.es.length = k'.es.length) := fun h => e h.1.symm
      unfold Rho.add at hr'
      rw [if_neg hne] at hr'
      obtain ⟨c, h1, h2, h3, h4, h5⟩ := hm.blk b' q r' hb' hr'
      exact ⟨c, h1, h2, h3, h4, RelB.mono hle (.refl _) h5⟩
  · rw [List.getElem?_set] at hb'
    split at hb'
    · rename_i e
      subst e
      try rw [if_pos hblt] at hb'
      injection hb' with hb'
      subst hb'
      rw [Rho.add_same] at hr'
      injection hr' with hr'
      subst hr'
      have := cell_lt (h.frz _ _ _ hx)
      simp at this
    · rename_i e
      have hne : ¬ (b' = b ∧ q.es.length = k'.es.length) := fun h => e h.1.symm
      unfold Rho.add at hr'
      rw [if_neg hne] at hr'
      exact h.fz b' q r' o x hb' hr' hx
  · rw [List.getElem?_set] at hb'
    unfold Rho.add at hr'
    split at hb'
    · rename_i e
      subst e
      try rw [if_pos hblt] at hb'
      injection hb' with hb'
      subst hb'
      split at hr'
      · rename_i e; omega
      · have := h.len b k L r' hb hr'; omega
    · rename_i e
      rw [if_neg (fun h => e h.1.symm)] at hr'
      exact h.len b' q L r' hb' hr'
  · unfold Rho.add at h1 h2
    split at h1 <;> split at h2
    · rename_i e1 e2; exact e1.1.trans e2.1.symm
    · injection h1 with h1; subst h1
      have := (h.img _ _ _ h2).2
      simp at he; omega
    · injection h2 with h2; subst h2
      have := (h.img _ _ _ h1).2
      simp at he; omega
    · exact h.inj b1 L1 r1 b2 L2 r2 h1 h2 he
  · have hr0 : ρ b' 0 = some r' := by
      unfold Rho.add at hr'
      split at hr'
      · rename_i e
        omega
      · exact hr'
    by_cases e : b' = b
    · subst e
      exact (h.noMap hb hr hr0 hz').elim
    · rw [List.getElem?_set_ne (fun h => e h.symm)] at hb'
      obtain ⟨m1, m2⟩ := hm.mp b' q r' hb' hr0 hz'
      refine ⟨m1.mono hle (.refl _) rfl, fun L r2 hr2 => ?_⟩
      unfold Rho.add at hr2
      rw [if_neg (fun h => e h.1)] at hr2
      exact m2 L r2 hr2

/-- the first m elements of a block are frozen -/
def Fz.frz (F : Fz) (g n : Nat) (cur : Array Value) : Fz := fun g' o => if g' = g ∧ o < n then cur[o]? else F g' o
theorem Fz.frz_le {g n : Nat} {cur : Array Value} (h : ∀ o x, F g o = some x → cur[o]? = some x) : Fle F (F.frz g n cur) := by
  intro g' o x hx
  unfold Fz.frz
  split
  · rename_i e
    rw [e.1] at hx
    exact h o x hx
  · exact hx
theorem Sim.freeze (h : Sim ρ F H w) {b m : Nat} {k : Blk} {r : RB} {cur : Array Value} (hb : H[b]? = some k) (hr : ρ b k.es.length = some r) (hc : w.heap[r.blk]? = some (.cells cur r.ty (0, 0))) :
    Ext ρ F w ρ (F.frz r.blk (m * k.z) cur) w ∧ Sim ρ (F.frz r.blk (m * k.z) cur) (H.modify b fun h => { h with fz := max h.fz m }) w := by
  have hle : Fle F (F.frz r.blk (m * k.z) cur) := Fz.frz_le fun o x hx => by
    have := h.frz _ _ _ hx
    rwa [cell_of hc] at this
  refine ⟨⟨rfl, rfl, rfl, Nat.le_refl _, fun _ _ _ => rfl, .refl _, fun b L r h => .inl ⟨L, r, h, rfl⟩, hle, fun g o x hx => ?_⟩, ?_⟩
  · unfold Fz.frz at hx
    split at hx
    · rename_i e
      exact .inr (.inr ⟨b, _, r, hr, e.1.symm⟩)
    · exact .inl hx
  have hget : ∀ b' q, (H.modify b fun h => { h with fz := max h.fz m })[b']? = some q → ∃ q0, H[b']? = some q0 ∧ q.es = q0.es ∧ q.z = q0.z ∧ q0.fz ≤ q.fz ∧ (b' = b → m ≤ q.fz) := by
    intro b' q hq
    rw [List.getElem?_modify] at hq
    split at hq
    · rename_i e
      obtain ⟨q0, h0, rfl⟩ := Option.map_eq_some_iff.1 hq
      exact ⟨q0, h0, rfl, rfl, Nat.le_max_left _ _, fun _ => Nat.le_max_right _ _⟩
    · rename_i e
      simp at hq
      exact ⟨q, hq, rfl, rfl, Nat.le_refl _, fun h => absurd h.symm e⟩
  refine ⟨fun b' L r' hr' => ?_, fun b' q r' hb' hr' => ?_, fun b' q r' o x hb' hr' hx => ?_, fun b' q L r' hb' hr' => ?_, h.inj, fun g o x hx => ?_, fun b' q r' hb' hr' hz' => ?_⟩
  · have := h.img b' L r' hr'
    simpa using this
  · obtain ⟨q0, h0, e1, e2, _, _⟩ := hget b' q hb'
    rw [e1] at hr'
    obtain ⟨c, h1, h2, h3, h4, h5⟩ := h.blk b' q0 r' h0 hr'
    rw [e1, e2]
    exact ⟨c, h1, h2, h3, h4, RelB.mono (.refl _) hle h5⟩
  · obtain ⟨q0, h0, e1, e2, e3, e4⟩ := hget b' q hb'
    rw [e1] at hr'
    unfold Fz.frz at hx
    rw [e2]
    split at hx
    · rename_i e
      have hbb : b' = b := h.inj b' _ r' b _ r hr' hr e.1
      subst hbb
      rw [hb] at h0
      injection h0 with h0
      subst h0
      exact Nat.lt_of_lt_of_le e.2 (Nat.mul_le_mul_right _ (e4 rfl))
    · exact Nat.lt_of_lt_of_le (h.fz b' q0 r' o x h0 hr' hx) (Nat.mul_le_mul_right _ e3)
  · obtain ⟨q0, h0, e1, _, _, _⟩ := hget b' q hb'
    rw [e1]
    exact h.len b' q0 L r' h0 hr'
  · unfold Fz.frz at hx
    split at hx
    · rename_i e
      rw [e.1, cell_of hc]
      exact hx
    · exact h.frz g o x hx
  · rw [List.getElem?_modify] at hb'
    split at hb'
    · rename_i e
      obtain ⟨q0, h0, rfl⟩ := Option.map_eq_some_iff.1 hb'
      obtain ⟨m1, m2⟩ := h.mp b' q0 r' h0 hr' hz'
      exact ⟨m1.mono (.refl _) hle rfl, m2⟩
    · simp at hb'
      obtain ⟨m1, m2⟩ := h.mp b' q r' hb' hr' hz'
      exact ⟨m1.mono (.refl _) hle rfl, m2⟩
end
end Go.AM
