/- An oracle: slices.Sort and slices.Compact of slices of ints in memory of their own, given what every run of them does. -/
import Derived.Test.YtdgineiemjplhaaAmKey
import Derived.Lib.SlicesCompact
import Derived.Sort.Grow
set_option linter.unusedVariables false
namespace Go.AM
open Go Go.RowKit Go.Sort Go.Lib

def ivZ (k : Int) : List V := [.int .i64 k]
/-- rows of one int each -/
def intsE : List (List V) → Option (List Int)
  | [] => some []
  | [.int .i64 k] :: es => (intsE es).map (k :: ·)
  | _ :: _ => none
theorem intsE_map : ∀ (ks : List Int), intsE (ks.map ivZ) = some ks
  | [] => rfl
  | k :: ks => by simp [intsE, ivZ]; exact intsE_map ks
theorem intsE_eq : ∀ {es : List (List V)} {ks : List Int}, intsE es = some ks → es = ks.map ivZ
  | [], ks, h => by simp [intsE] at h; subst h; rfl
  | e :: es, ks, h => by
    unfold intsE at h
    split at h
    · cases ‹_ :: _ = []›
    · rename_i k es' he
      injection he with h1 h2
      subst h1 h2
      simp only [Option.map_eq_some_iff] at h
      obtain ⟨ks', h3, rfl⟩ := h
      rw [intsE_eq h3]; rfl
    · cases h
/-- compacted, the rest zeroes -/
def compZ (ks : List Int) : List Int := compact ks ++ List.replicate (ks.length - (compact ks).length) 0
def blkZ (h : Blk) (ks : List Int) : Blk := { h with es := ks.map ivZ }
def oraSC (fs fc : FuncId) : CallT := fun f args Hs => match args with
  | [.nils] => if f = fs then some (.tup [], Hs, false) else if f = fc then some (.nils, Hs, false) else none
  | [.sl z j L o n] => (Hs[j]?).bind fun h => (intsE h.es).bind fun ks => if z = 1 ∧ o = 0 ∧ n = L ∧ ks.length = L ∧ h.z = 1 ∧ h.fz = 0 ∧ h.box = false ∧ L ≤ 1000000 then
      (if f = fs then some (.tup [], Hs.set j (blkZ h (ks.mergeSort leZ)), true) else if f = fc then some (.sl 1 j L 0 (compact ks).length, Hs.set j (blkZ h (compZ ks)), true) else none) else none
  | _ => none

section
variable {P : Program} {ρ : Rho} {F : Fz} {H : Heap} {w : World}
theorem Rho.add_self {b L : Nat} {r : RB} (h : ρ b L = some r) : ρ.add b L r = ρ := by
  funext b' L'
  unfold Rho.add
  split
  · rename_i e; rw [e.1, e.2, h]
  · rfl
theorem putCells_get {d : Array Int} {c : Array Value} {i : Nat} (hi : i < d.size) (hc : i < c.size) : (putCells encZ 0 d c)[i]? = some (encZ d[i]!) := by
  simp only [putCells, Array.getElem?_mapIdx, Array.getElem?_eq_getElem hc, Option.map_some, Nat.zero_le, Nat.zero_add, true_and, hi, if_true, Nat.sub_zero]
/-- a slice of ints is written, new blocks may come -/
theorem rowSound (hs : Sim ρ F H w) (hok : HOk H) {j : Nat} {k : Blk} {r : RB} (hj : H[j]? = some k) (hr : ρ j k.es.length = some r) (hz : k.z = 1) (hfz : k.fz = 0) (hbox : k.box = false) {ks ks' : List Int} (hes : k.es = ks.map ivZ) (hlen : ks'.length = ks.length) (n : Nat) (os : Array Obj) :
    Ext ρ F w ρ F (grow (putRow encZ (Sort.ahead w n) r.blk 0 ks'.toArray) os) ∧ Sim ρ F (H.set j (blkZ k ks')) (grow (putRow encZ (Sort.ahead w n) r.blk 0 ks'.toArray) os) ∧ HOk (H.set j (blkZ k ks')) := by
  obtain ⟨cur, c1, c2, c3, c4, c5⟩ := hs.blk j k r hj hr
  have hkl : k.es.length = ks.length := by rw [hes]; simp
  have hlt := (hs.img j _ r hr).2
  have hcs : ks.length ≤ cur.size := by rw [c2, c3, hz]; omega
  have hl' : (blkZ k ks').es.length = k.es.length := by simp [blkZ, hkl, hlen]
  have hF : ∀ o x, F r.blk o = some x → False := fun o x hx => by
    have := hs.fz j k r o x hj hr hx
    rw [hfz] at this; omega
  obtain ⟨hE, hS⟩ := hs.write (k' := blkZ k ks') (cur' := putCells encZ 0 ks'.toArray cur) hj hr c1 (by simp [putCells]) rfl (by rw [hl']; exact Nat.le_refl _) (by rw [hl']; exact c4) (Nat.le_refl _) (fun o x hx => (hF o x hx).elim) (fun i e jj v he hv => by
    simp only [blkZ, List.getElem?_map, Option.map_eq_some_iff] at he
    obtain ⟨q, hq, rfl⟩ := he
    have hi := (List.getElem?_eq_some_iff.1 hq).1
    have h5 : jj = 0 ∧ v = .int .i64 q := by
      cases jj with
      | zero => simp [ivZ] at hv; exact ⟨rfl, hv.symm⟩
      | succ jj => simp [ivZ] at hv
    obtain ⟨rfl, rfl⟩ := h5
    refine ⟨encZ q, ?_, .t (.int .i64 q)⟩
    rw [hz, Nat.mul_one, Nat.add_zero, putCells_get (by simpa using hi) (by omega)]
    have : (ks'.toArray)[i]! = q := by
      rw [getElem!_pos _ i (by simpa using hi)]
      simpa using (List.getElem?_eq_some_iff.1 hq).2
    rw [this])
  have hadd : ρ.add j (blkZ k ks').es.length r = ρ := Rho.add_self (by rw [hl']; exact hr)
  rw [hadd] at hE hS
  have hrow : ∀ g, g < w.heap.size → (grow (putRow encZ (Sort.ahead w n) r.blk 0 ks'.toArray) os).heap[g]? = (w.setRow r.blk (putCells encZ 0 ks'.toArray cur)).heap[g]? := by
    intro g hg
    have h1 : (grow (putRow encZ (Sort.ahead w n) r.blk 0 ks'.toArray) os).heap[g]? = (putRow encZ (Sort.ahead w n) r.blk 0 ks'.toArray).heap[g]? := by
      simp only [grow]
      rw [Array.getElem?_append_left (by simpa [putRow, mapBlock, Sort.ahead] using hg)]
    rw [h1]
    by_cases e : g = r.blk
    · subst e
      simp only [putRow, mapBlock, Sort.ahead, Array.getElem?_modify, if_true, c1, Option.map_some, onCells]
      exact (setRow_heap w r.blk cur _ _ _ c1).symm
    · rw [setRow_other w r.blk g _ e]
      simp only [putRow, mapBlock, Sort.ahead, Array.getElem?_modify, if_neg (fun h : r.blk = g => e h.symm)]
  have hsz : w.heap.size ≤ (grow (putRow encZ (Sort.ahead w n) r.blk 0 ks'.toArray) os).heap.size := by simp [putRow, mapBlock, Sort.ahead]
  have hsz2 : (w.setRow r.blk (putCells encZ 0 ks'.toArray cur)).heap.size = w.heap.size := by simp
  refine ⟨hE.trans (Ext.move ρ F rfl rfl rfl (by rw [hsz2]; exact hsz) fun g hg => hrow g (by rw [hsz2] at hg; exact hg)), hS.move (by rw [hsz2]; exact hsz) fun g hg => hrow g (by rw [hsz2] at hg; exact hg), fun b hb => ?_⟩
  rcases List.mem_or_eq_of_mem_set hb with h1 | rfl
  · exact hok b h1
  · have hk := hok k (List.mem_of_getElem? hj)
    have hrow1 : ∀ e ∈ (blkZ k ks').es, ∃ q, e = ivZ q := by
      intro e he
      simp only [blkZ, List.mem_map] at he
      obtain ⟨q, _, rfl⟩ := he
      exact ⟨q, rfl⟩
    refine ⟨fun e he => ?_, fun e he v hv => ?_, fun h => ?_, fun _ e he v hv => ?_, fun _ e he v hv => ?_⟩
    · obtain ⟨q, rfl⟩ := hrow1 e he
      simp [ivZ, blkZ, hz]
    · obtain ⟨q, rfl⟩ := hrow1 e he
      simp [ivZ] at hv; subst hv; rfl
    · simp [blkZ, hbox] at h
    · obtain ⟨q, rfl⟩ := hrow1 e he
      simp [ivZ] at hv; subst hv; rfl
    · obtain ⟨q, rfl⟩ := hrow1 e he
      simp [ivZ] at hv; subst hv; rfl
theorem holdsZ (hs : Sim ρ F H w) {j : Nat} {k : Blk} {r : RB} (hj : H[j]? = some k) (hr : ρ j k.es.length = some r) (hz : k.z = 1) {ks : List Int} (hes : k.es = ks.map ivZ) : Holds encZ w r.blk 0 ks.toArray := by
  obtain ⟨cur, c1, c2, c3, c4, c5⟩ := hs.blk j k r hj hr
  intro i hi
  have hi' : i < ks.length := by simpa using hi
  obtain ⟨u, hu, hrel⟩ := c5 i [.int .i64 ks[i]] 0 (.int .i64 ks[i]) (by rw [hes, List.getElem?_map, List.getElem?_eq_getElem hi']; rfl) rfl
  have := hrel.int_inv
  subst this
  rw [hz, Nat.mul_one, Nat.add_zero] at hu
  have e : (ks.toArray)[i]! = ks[i] := by
    rw [getElem!_pos _ i (by simpa using hi')]
    simp
  refine ⟨?_, ?_⟩
  · simp only [World.cell?, c1, Nat.zero_add, e]
    simpa using hu
  · simp [World.frozen?, c1]
/-- the contracts -/
structure SortC (P : Program) (f : FuncId) : Prop where
  fn : ∃ fn, P.funcs[f]? = some fn ∧ (fn.name == "runtime.NumGoroutine") = false ∧ fn.body.isSome = true
  run : ∀ (blk cap : Nat) (ks : List Int) (w : World), Holds encZ w blk 0 ks.toArray → blk < w.heap.size → ks.length ≤ 1000000 → Calls P f #[.slice (some ⟨blk, 0, none⟩) ks.length cap] w fun e w' => e = .returned (.tuple #[]) ∧ ∃ n os, w' = grow (putRow encZ (Sort.ahead w n) blk 0 (ks.mergeSort leZ).toArray) os
  nil : ∀ w, Calls P f #[.slice none 0 0] w fun e w' => e = .returned (.tuple #[]) ∧ w' = w
structure CompC (P : Program) (f : FuncId) : Prop where
  fn : ∃ fn, P.funcs[f]? = some fn ∧ (fn.name == "runtime.NumGoroutine") = false ∧ fn.body.isSome = true
  run : ∀ (blk cap : Nat) (ks : List Int) (w : World), Holds encZ w blk 0 ks.toArray → ks.length ≤ 1000000 → ks.length ≤ cap → Calls P f #[.slice (some ⟨blk, 0, none⟩) ks.length cap] w fun e w' => e = .returned (.slice (some ⟨blk, 0, none⟩) (compact ks).length cap) ∧ ∃ q, w' = putRow encZ (Sort.ahead w q) blk 0 (compZ ks).toArray
  nil : ∀ w, Calls P f #[.slice none 0 0] w fun e w' => e = .returned (.slice none 0 0) ∧ w' = w
theorem compact_len (ks : List Int) : (compact ks).length ≤ ks.length := by
  unfold compact compactUpTo
  rw [List.length_map]
  exact Nat.le_trans (List.length_filter_le _ _) (by simp)
theorem compZ_len (ks : List Int) : (compZ ks).length = ks.length := by
  have := compact_len ks
  simp [compZ]; omega
theorem oraSC_ok {fs fc : FuncId} (hS : SortC P fs) (hC : CompC P fc) : CallOk P (oraSC fs fc) := by
  intro f args Hs v Hs' d hx hok hcl
  unfold oraSC at hx
  split at hx
  · -- nil
    split at hx
    · rename_i e
      subst e
      simp only [Option.some.injEq, Prod.mk.injEq] at hx
      obtain ⟨rfl, rfl, rfl⟩ := hx
      refine ⟨hS.fn, fun ρ F w us hs ha => ?_⟩
      obtain ⟨u, rfl⟩ : ∃ u, us = [u] := by
        have := ha.1
        match us, this with
        | [u], _ => exact ⟨u, rfl⟩
      obtain rfl : u = .slice none 0 0 := by
        have h1 := ha.head
        cases h1 with
        | t h => cases h; rfl
      refine (hS.nil w).mono ?_
      rintro e w' ⟨rfl, rfl⟩
      exact ⟨⟨hok, Nat.le_refl _, fun _ => by simp⟩, _, ρ, F, rfl, Ext.refl _ _ _, hs, .tup [] [] rfl (by simp), fun _ b L r h _ => h⟩
    · split at hx
      · rename_i e
        subst e
        simp only [Option.some.injEq, Prod.mk.injEq] at hx
        obtain ⟨rfl, rfl, rfl⟩ := hx
        refine ⟨hC.fn, fun ρ F w us hs ha => ?_⟩
        obtain ⟨u, rfl⟩ : ∃ u, us = [u] := by
          have := ha.1
          match us, this with
          | [u], _ => exact ⟨u, rfl⟩
        obtain rfl : u = .slice none 0 0 := by
          have h1 := ha.head
          cases h1 with
          | t h => cases h; rfl
        refine (hC.nil w).mono ?_
        rintro e w' ⟨rfl, rfl⟩
        exact ⟨⟨hok, Nat.le_refl _, fun _ => by simp⟩, _, ρ, F, rfl, Ext.refl _ _ _, hs, .t .nils, fun _ b L r h _ => h⟩
      · cases hx
  · rename_i z j L o n
    simp only [Option.bind_eq_some_iff] at hx
    obtain ⟨h, hj, ks, hks, hx⟩ := hx
    split at hx
    case isFalse => cases hx
    rename_i hcond
    obtain ⟨rfl, rfl, rfl, hL, hz, hfz, hbox, hL6⟩ := hcond
    have hes := intsE_eq hks
    have hkl : h.es.length = n := by rw [hes]; simpa using hL
    have open1 : ∀ {ρ : Rho} {F : Fz} {us : List Value}, RelL ρ F [V.sl 1 j n 0 n] us → ∃ r c, us = [.slice (some ⟨r.blk, 0, none⟩) ks.length c] ∧ ρ j h.es.length = some r ∧ r.z = 1 ∧ ks.length ≤ c ∧ 0 + c ≤ r.cap ∧ r.cap ≤ maxLen := by
      intro ρ F us ha
      obtain ⟨u, rfl⟩ : ∃ u, us = [u] := by
        have := ha.1
        match us, this with
        | [u], _ => exact ⟨u, rfl⟩
      obtain ⟨r, c, h1, h2, h3, h4, h5, rfl⟩ := ha.head.sl_inv
      exact ⟨r, c, by rw [hL, Nat.zero_mul], by rw [hkl]; exact h1, h2, by omega, h4, h5⟩
    split at hx
    · rename_i e
      subst e
      simp only [Option.some.injEq, Prod.mk.injEq] at hx
      obtain ⟨rfl, rfl, rfl⟩ := hx
      refine ⟨hS.fn, fun ρ F w us hs ha => ?_⟩
      obtain ⟨r, c, rfl, hr, hrz, hc1, hc2, hc3⟩ := open1 ha
      refine (hS.run r.blk c ks w (holdsZ hs hj hr hz hes) (hs.img _ _ _ hr).2 (by omega)).mono ?_
      rintro e w' ⟨rfl, nn, os, rfl⟩
      obtain ⟨hE, hSim, hok'⟩ := rowSound hs hok hj hr hz hfz hbox hes (ks' := ks.mergeSort leZ) (by rw [List.length_mergeSort]) nn os
      exact ⟨⟨hok', by simp, fun h => by cases h⟩, _, ρ, F, rfl, hE, hSim, .tup [] [] rfl (by simp), fun h => by cases h⟩
    · split at hx
      · rename_i e
        subst e
        simp only [Option.some.injEq, Prod.mk.injEq] at hx
        obtain ⟨rfl, rfl, rfl⟩ := hx
        refine ⟨hC.fn, fun ρ F w us hs ha => ?_⟩
        obtain ⟨r, c, rfl, hr, hrz, hc1, hc2, hc3⟩ := open1 ha
        refine (hC.run r.blk c ks w (holdsZ hs hj hr hz hes) (by omega) hc1).mono ?_
        rintro e w' ⟨rfl, q, rfl⟩
        obtain ⟨hE, hSim, hok'⟩ := rowSound hs hok hj hr hz hfz hbox hes (ks' := compZ ks) (compZ_len ks) q #[]
        rw [grow_empty] at hE hSim
        refine ⟨⟨hok', by simp, fun h => by cases h⟩, _, ρ, F, rfl, hE, hSim, ?_, fun h => by cases h⟩
        have := compact_len ks
        have hR := Rel.sl (F := F) j n 0 (compact ks).length c r (by rw [← hkl]; exact hr) (by omega) hc2 hc3
        rw [hrz, Nat.zero_mul] at hR
        exact hR
      · cases hx
  · cases hx
end
end Go.AM
