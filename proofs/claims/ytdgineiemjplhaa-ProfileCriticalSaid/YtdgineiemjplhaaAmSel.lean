/- Renaming: a part of the heap under other numbers. -/
import Derived.Test.YtdgineiemjplhaaAmHeap
set_option linter.unusedVariables false
namespace Go.AM
open Go Go.RowKit

theorem reach_pre (H : Heap) : ∀ (k : Nat) (acc todo : List Nat), ∃ l, reach H k acc todo = acc ++ l
  | 0, acc, todo => ⟨[], by simp [reach]⟩
  | k + 1, acc, [] => ⟨[], by simp [reach]⟩
  | k + 1, acc, b :: todo => by
    unfold reach
    split
    · exact reach_pre H k acc todo
    · obtain ⟨l, hl⟩ := reach_pre H k (acc ++ [b]) _
      exact ⟨[b] ++ l, by rw [← List.append_assoc]; exact hl⟩
theorem reach_nodup (H : Heap) : ∀ (k : Nat) (acc todo : List Nat), acc.Nodup → (reach H k acc todo).Nodup
  | 0, acc, todo, h => by simpa [reach] using h
  | k + 1, acc, [], h => by simpa [reach] using h
  | k + 1, acc, b :: todo, h => by
    unfold reach
    split
    · exact reach_nodup H k acc todo h
    · rename_i hc
      refine reach_nodup H k _ _ ?_
      rw [List.nodup_append]
      refine ⟨h, by simp, fun x hx y hy => ?_⟩
      simp at hy
      subst hy
      intro e
      subst e
      simp at hc
      exact hc hx

theorem place_some {ids : List Nat} {b i : Nat} (h : place ids b = some i) : ids[i]? = some b := by
  unfold place at h
  rw [List.idxOf?, List.findIdx?_eq_some_iff_getElem] at h
  obtain ⟨hi, he, _⟩ := h
  rw [List.getElem?_eq_getElem hi]
  simpa using he
theorem place_of {ids : List Nat} (hn : ids.Nodup) {b i : Nat} (h : ids[i]? = some b) : place ids b = some i := by
  obtain ⟨hi, he⟩ := List.getElem?_eq_some_iff.1 h
  unfold place
  rw [List.idxOf?, List.findIdx?_eq_some_iff_getElem]
  refine ⟨hi, by simpa using he, fun j hj => ?_⟩
  have hne : ids[j] ≠ ids[i] := fun e => by
    have := (List.getElem_inj hn).1 e
    omega
  rw [he] at hne
  simpa using hne

mutual
theorem ren_id (g : Nat → Option Nat) : ∀ (v : V), (∀ b ∈ v.refs, g b = some b) → v.ren g = some v
  | .bool b, _ => rfl
  | .int k n, _ => rfl
  | .str s, _ => rfl
  | .nilp, _ => rfl
  | .nils, _ => rfl
  | .nilf, _ => rfl
  | .undef, _ => rfl
  | .ptr b L i o, h => by simp [V.ren, h b (by simp [V.refs])]
  | .sl z b L o n, h => by simp [V.ren, h b (by simp [V.refs])]
  | .tsl z es, _ => rfl
  | .tptr cs o, _ => rfl
  | .agg cs, h => by simp [V.ren, renL_id g cs (fun b hb => h b (by simpa [V.refs] using hb))]
  | .tup cs, h => by simp [V.ren, renL_id g cs (fun b hb => h b (by simpa [V.refs] using hb))]
  | .fn f cs, h => by simp [V.ren, renL_id g cs (fun b hb => h b (by simpa [V.refs] using hb))]
  | .mp b, h => by simp [V.ren, h b (by simp [V.refs])]
theorem renL_id (g : Nat → Option Nat) : ∀ (cs : List V), (∀ b ∈ refsL cs, g b = some b) → renL g cs = some cs
  | [], _ => rfl
  | v :: vs, h => by
    simp [renL, ren_id g v (fun b hb => h b (by simp [refsL, hb])), renL_id g vs (fun b hb => h b (by simp [refsL, hb]))]
end
mutual
theorem ren_refs (g : Nat → Option Nat) : ∀ (v v' : V), v.ren g = some v' → ∀ b ∈ v'.refs, ∃ a, g a = some b
  | .bool b, v', h, x, hx => by simp [V.ren] at h; subst h; simp [V.refs] at hx
  | .int k n, v', h, x, hx => by simp [V.ren] at h; subst h; simp [V.refs] at hx
  | .str s, v', h, x, hx => by simp [V.ren] at h; subst h; simp [V.refs] at hx
  | .nilp, v', h, x, hx => by simp [V.ren] at h; subst h; simp [V.refs] at hx
  | .nils, v', h, x, hx => by simp [V.ren] at h; subst h; simp [V.refs] at hx
  | .nilf, v', h, x, hx => by simp [V.ren] at h; subst h; simp [V.refs] at hx
  | .undef, v', h, x, hx => by simp [V.ren] at h; subst h; simp [V.refs] at hx
  | .tsl z es, v', h, x, hx => by simp [V.ren] at h; subst h; simp [V.refs] at hx
  | .tptr cs o, v', h, x, hx => by simp [V.ren] at h; subst h; simp [V.refs] at hx
  | .ptr b L i o, v', h, x, hx => by
    simp only [V.ren, Option.map_eq_some_iff] at h
    obtain ⟨a, ha, rfl⟩ := h
    simp [V.refs] at hx
    exact ⟨b, by rw [hx]; exact ha⟩
  | .sl z b L o n, v', h, x, hx => by
    simp only [V.ren, Option.map_eq_some_iff] at h
    obtain ⟨a, ha, rfl⟩ := h
    simp [V.refs] at hx
    exact ⟨b, by rw [hx]; exact ha⟩
  | .mp b, v', h, x, hx => by
    simp only [V.ren, Option.map_eq_some_iff] at h
    obtain ⟨a, ha, rfl⟩ := h
    simp [V.refs] at hx
    exact ⟨b, by rw [hx]; exact ha⟩
  | .agg cs, v', h, x, hx => by
    simp only [V.ren, Option.map_eq_some_iff] at h
    obtain ⟨a, ha, rfl⟩ := h
    exact renL_refs g cs a ha x (by simpa [V.refs] using hx)
  | .tup cs, v', h, x, hx => by
    simp only [V.ren, Option.map_eq_some_iff] at h
    obtain ⟨a, ha, rfl⟩ := h
    exact renL_refs g cs a ha x (by simpa [V.refs] using hx)
  | .fn f cs, v', h, x, hx => by
    simp only [V.ren, Option.map_eq_some_iff] at h
    obtain ⟨a, ha, rfl⟩ := h
    exact renL_refs g cs a ha x (by simpa [V.refs] using hx)
theorem renL_refs (g : Nat → Option Nat) : ∀ (cs cs' : List V), renL g cs = some cs' → ∀ b ∈ refsL cs', ∃ a, g a = some b
  | [], cs', h, x, hx => by simp [renL] at h; subst h; simp [refsL] at hx
  | v :: vs, cs', h, x, hx => by
    simp only [renL, Option.bind_eq_some_iff, Option.map_eq_some_iff] at h
    obtain ⟨a, ha, as, has, rfl⟩ := h
    simp [refsL] at hx
    rcases hx with hx | hx
    · exact ren_refs g v a ha x hx
    · exact renL_refs g vs as has x hx
end

theorem renL_get {g : Nat → Option Nat} : ∀ {cs cs' : List V}, renL g cs = some cs' → cs'.length = cs.length ∧ ∀ (j : Nat) (v' : V), cs'[j]? = some v' → ∃ v, cs[j]? = some v ∧ v.ren g = some v'
  | [], cs', h => by simp [renL] at h; subst h; simp
  | v :: vs, cs', h => by
    simp only [renL, Option.bind_eq_some_iff, Option.map_eq_some_iff] at h
    obtain ⟨a, ha, as, has, rfl⟩ := h
    obtain ⟨h1, h2⟩ := renL_get has
    refine ⟨by simp [h1], fun j v' hv => ?_⟩
    cases j with
    | zero => simp at hv; subst hv; exact ⟨v, rfl, ha⟩
    | succ j => simpa using h2 j v' (by simpa using hv)
theorem ren_cell {g : Nat → Option Nat} {v v' : V} (h : v.ren g = some v') : v'.cell = v.cell := by
  cases v <;> simp [V.ren, Option.map_eq_some_iff] at h <;> first
    | (subst h; rfl)
    | (obtain ⟨a, _, rfl⟩ := h; rfl)
theorem ren_tree {g : Nat → Option Nat} {v : V} (h : v.tree = true) : v.ren g = some v := by
  cases v with
  | fn f cs => cases cs <;> simp_all [V.tree, V.ren, renL]
  | _ => simp_all [V.tree, V.ren]
theorem ren_flat {g : Nat → Option Nat} {v v' : V} (h : v.ren g = some v') (hf : v.flat = true) : v'.flat = true := by
  rw [ren_tree (V.tree_of_flat hf)] at h
  injection h with h
  subst h
  exact hf
theorem RelT.tree {F : Fz} {v : V} {u : Value} (h : RelT F v u) : v.tree = true := by cases h <;> rfl

theorem Rel.ren {ρ ρ' : Rho} {F : Fz} {g : Nat → Option Nat} (hg : ∀ b b', g b = some b' → ∀ L, ρ' b' L = ρ b L) {v : V} {u : Value} (h : Rel ρ F v u) : ∀ v', v.ren g = some v' → Rel ρ' F v' u := by
  induction h with
  | t h =>
    intro v' hv
    rw [ren_tree h.tree] at hv
    injection hv with hv
    subst hv
    exact .t h
  | undef u =>
    intro v' hv
    simp [V.ren] at hv
    subst hv
    exact .undef u
  | ptr b L i o r h =>
    intro v' hv
    simp only [V.ren, Option.map_eq_some_iff] at hv
    obtain ⟨a, ha, rfl⟩ := hv
    exact .ptr a L i o r (by rw [hg b a ha]; exact h)
  | sl b L o n c r h h1 h2 h3 =>
    intro v' hv
    simp only [V.ren, Option.map_eq_some_iff] at hv
    obtain ⟨a, ha, rfl⟩ := hv
    exact .sl a L o n c r (by rw [hg b a ha]; exact h) h1 h2 h3
  | fn f cs us h1 h2 ih =>
    intro v' hv
    simp only [V.ren, Option.map_eq_some_iff] at hv
    obtain ⟨a, ha, rfl⟩ := hv
    obtain ⟨e1, e2⟩ := renL_get ha
    exact .fn f a us (by rw [e1, h1]) (fun j x y hx hy => let ⟨v, hv, hr⟩ := e2 j x hx; ih j v y hv hy x hr)
  | agg cs us h1 h2 h3 ih =>
    intro v' hv
    simp only [V.ren, Option.map_eq_some_iff] at hv
    obtain ⟨a, ha, rfl⟩ := hv
    obtain ⟨e1, e2⟩ := renL_get ha
    refine .agg a us (by rw [e1, h1]) (fun j x y hx hy => let ⟨v, hv, hr⟩ := e2 j x hx; ih j v y hv hy x hr) (fun x hx => ?_)
    obtain ⟨j, hj⟩ := List.mem_iff_getElem?.1 hx
    obtain ⟨v, hv, hr⟩ := e2 j x hj
    rw [ren_cell hr]
    exact h3 v (List.mem_of_getElem? hv)
  | tup cs us h1 h2 ih =>
    intro v' hv
    simp only [V.ren, Option.map_eq_some_iff] at hv
    obtain ⟨a, ha, rfl⟩ := hv
    obtain ⟨e1, e2⟩ := renL_get ha
    exact .tup a us (by rw [e1, h1]) (fun j x y hx hy => let ⟨v, hv, hr⟩ := e2 j x hx; ih j v y hv hy x hr)
  | mp b r h h1 =>
    intro v' hv
    simp only [V.ren, Option.map_eq_some_iff] at hv
    obtain ⟨a, ha, rfl⟩ := hv
    exact .mp a r (by rw [hg b a ha]; exact h) h1
theorem RelL.ren {ρ ρ' : Rho} {F : Fz} {g : Nat → Option Nat} (hg : ∀ b b', g b = some b' → ∀ L, ρ' b' L = ρ b L) {cs cs' : List V} {us : List Value} (h : RelL ρ F cs us) (hc : renL g cs = some cs') : RelL ρ' F cs' us := by
  obtain ⟨e1, e2⟩ := renL_get hc
  exact ⟨by rw [e1, h.1], fun j x y hx hy => let ⟨v, hv, hr⟩ := e2 j x hx; (h.2 j v y hv hy).ren hg x hr⟩

theorem Blk.ren_ok {g : Nat → Option Nat} {h h' : Blk} (hr : h.ren g = some h') (hk : BlkOk h) : BlkOk h' := by
  unfold Blk.ren at hr
  split at hr
  · rename_i hbox
    split at hr
    · rename_i e he
      simp only [Option.map_eq_some_iff] at hr
      obtain ⟨e', hr, rfl⟩ := hr
      obtain ⟨e1, e2⟩ := renL_get hr
      refine ⟨?_, ?_, fun _ => rfl, fun hb => by simp [hbox] at hb, ?_⟩
      · intro x hx
        simp at hx
        subst hx
        rw [e1]
        exact hk.z e (by rw [he]; simp)
      · intro x hx v hv
        simp at hx
        subst hx
        obtain ⟨j, hj⟩ := List.mem_iff_getElem?.1 hv
        obtain ⟨v0, hv0, hr0⟩ := e2 j v hj
        rw [ren_cell hr0]
        exact hk.cell e (by rw [he]; simp) v0 (List.mem_of_getElem? hv0)
      · intro hf x hx v hv
        simp at hx
        subst hx
        obtain ⟨j, hj⟩ := List.mem_iff_getElem?.1 hv
        obtain ⟨v0, hv0, hr0⟩ := e2 j v hj
        exact ren_flat hr0 (hk.flat hf e (by rw [he]; simp) v0 (List.mem_of_getElem? hv0))
    · cases hr
  · injection hr with hr
    subst hr
    exact hk
theorem Blk.ren_len {g : Nat → Option Nat} {h h' : Blk} (hr : h.ren g = some h') : h'.es.length = h.es.length ∧ h'.z = h.z ∧ h'.fz = h.fz := by
  unfold Blk.ren at hr
  split at hr
  · split at hr
    · rename_i e he
      simp only [Option.map_eq_some_iff] at hr
      obtain ⟨e', hr, rfl⟩ := hr
      simp [he]
    · cases hr
  · injection hr with hr
    subst hr
    exact ⟨rfl, rfl, rfl⟩
theorem Blk.ren_rel {ρ ρ' : Rho} {F : Fz} {g : Nat → Option Nat} (hg : ∀ b b', g b = some b' → ∀ L, ρ' b' L = ρ b L) {h h' : Blk} (hr : h.ren g = some h') (hk : BlkOk h) {cur : Array Value} (hb : RelB ρ F h.z h.es cur) : RelB ρ' F h'.z h'.es cur := by
  unfold Blk.ren at hr
  split at hr
  · rename_i hbox
    split at hr
    · rename_i e he
      simp only [Option.map_eq_some_iff] at hr
      obtain ⟨e', hr, rfl⟩ := hr
      obtain ⟨e1, e2⟩ := renL_get hr
      intro i x j v hx hv
      cases i with
      | zero =>
        simp at hx
        subst hx
        obtain ⟨v0, hv0, hr0⟩ := e2 j v hv
        obtain ⟨u, hu, hrel⟩ := hb 0 e j v0 (by rw [he]; rfl) hv0
        exact ⟨u, hu, hrel.ren hg v hr0⟩
      | succ i => simp at hx
    · cases hr
  · rename_i hbox
    injection hr with hr
    subst hr
    intro i x j v hx hv
    obtain ⟨u, hu, hrel⟩ := hb i x j v hx hv
    exact ⟨u, hu, .t (hrel.tree (hk.tree (by simpa using hbox) x (List.mem_of_getElem? hx) v (List.mem_of_getElem? hv)))⟩

/-- a heap under other numbers: sg says where a block was -/
theorem Sim.sel {ρ : Rho} {F : Fz} {H H' : Heap} {w : World} (h : Sim ρ F H w) (hok : HOk H) (g : Nat → Option Nat) (sg : Nat → Nat)
    (hH : ∀ i h', H'[i]? = some h' → ∃ k, H[sg i]? = some k ∧ k.ren g = some h') (hg : ∀ b b', g b = some b' → b' < H'.length ∧ sg b' = b) (hinj : ∀ i j, i < H'.length → j < H'.length → sg i = sg j → i = j) :
    Sim (fun i L => if i < H'.length then ρ (sg i) L else .none) F H' w := by
  have hg' : ∀ b b', g b = some b' → ∀ L, (fun i L => if i < H'.length then ρ (sg i) L else .none : Rho) b' L = ρ b L := fun b b' hb L => by
    obtain ⟨h1, h2⟩ := hg b b' hb
    simp only [if_pos h1, h2]
  refine ⟨fun b L r hr => ?_, fun b k r hb hr => ?_, fun b k r o x hb hr hx => ?_, fun b k L r hb hr => ?_, fun b1 L1 r1 b2 L2 r2 h1 h2 he => ?_, h.frz, fun b k r hb hr hz => ?_⟩
  · split at hr
    · rename_i hlt; exact ⟨hlt, (h.img _ L r hr).2⟩
    · cases hr
  · split at hr
    · obtain ⟨k0, hk0, hren⟩ := hH b k hb
      obtain ⟨e1, e2, e3⟩ := Blk.ren_len hren
      rw [e1] at hr
      obtain ⟨cur, h1, h2, h3, h4, h5⟩ := h.blk (sg b) k0 r hk0 hr
      have h5 : RelB ρ F k0.z k0.es cur := h5
      exact ⟨cur, h1, h2, by rw [e2]; exact h3, by rw [e1]; exact h4, Blk.ren_rel hg' hren (hok.get hk0) h5⟩
    · cases hr
  · split at hr
    · obtain ⟨k0, hk0, hren⟩ := hH b k hb
      obtain ⟨e1, e2, e3⟩ := Blk.ren_len hren
      rw [e1] at hr
      rw [e2, e3]
      exact h.fz (sg b) k0 r o x hk0 hr hx
    · cases hr
  · split at hr
    · obtain ⟨k0, hk0, hren⟩ := hH b k hb
      obtain ⟨e1, e2, e3⟩ := Blk.ren_len hren
      rw [e1]
      exact h.len (sg b) k0 L r hk0 hr
    · cases hr
  · split at h1 <;> split at h2
    · rename_i l1 l2
      exact hinj b1 b2 l1 l2 (h.inj _ L1 r1 _ L2 r2 h1 h2 he)
    · cases h2
    · cases h1
    · cases h1
  · split at hr
    · rename_i hlt
      obtain ⟨k0, hk0, hren⟩ := hH b k hb
      obtain ⟨⟨m0, ag, e, es, ens, clock, m1, m2, m3, m4⟩, m5⟩ := h.mp (sg b) k0 r hk0 hr hz
      have hk : k0 = k := by
        unfold Blk.ren at hren
        rw [if_neg (by simp [m0])] at hren
        exact Option.some.inj hren
      subst hk
      refine ⟨⟨m0, ag, e, es, ens, clock, m1, m2, m3, fun i row x hi hx => MRow.trees (fun v hv => ?_) (m4 i row x hi hx)⟩, fun L r' hr' => ?_⟩
      · exact (hok.get hk0).tree m0 row (by rw [m1]; exact List.mem_cons_of_mem _ (List.mem_of_getElem? hi)) v hv
      · rw [if_pos hlt] at hr'
        exact m5 L r' hr'
    · cases hr

theorem pickH_get {H : Heap} {g : Nat → Option Nat} : ∀ {ids : List Nat} {H' : Heap}, pickH H g ids = some H' → H'.length = ids.length ∧ ∀ (i : Nat) (h' : Blk), H'[i]? = some h' → ∃ b k, ids[i]? = some b ∧ H[b]? = some k ∧ k.ren g = some h'
  | [], H', h => by simp [pickH] at h; subst h; simp
  | b :: ids, H', h => by
    simp only [pickH, Option.bind_eq_some_iff, Option.map_eq_some_iff] at h
    obtain ⟨k, hk, k', hk', Hs, hHs, rfl⟩ := h
    obtain ⟨e1, e2⟩ := pickH_get hHs
    refine ⟨by simp [e1], fun i h' hi => ?_⟩
    cases i with
    | zero => simp at hi; subst hi; exact ⟨b, k, rfl, hk, hk'⟩
    | succ i => simpa using e2 i h' (by simpa using hi)
theorem pickH_ok {H H' : Heap} {g : Nat → Option Nat} {ids : List Nat} (h : pickH H g ids = some H') (hok : HOk H) : HOk H' := by
  intro x hx
  obtain ⟨i, hi⟩ := List.mem_iff_getElem?.1 hx
  obtain ⟨b, k, _, hk, hr⟩ := (pickH_get h).2 i x hi
  exact Blk.ren_ok hr (hok.get hk)
/-- the part of a heap that some numbers name -/
theorem Sim.pick {ρ : Rho} {F : Fz} {H H' : Heap} {w : World} {ids : List Nat} (h : Sim ρ F H w) (hok : HOk H) (hn : ids.Nodup) (hp : pickH H (place ids) ids = some H') :
    Sim (fun i L => if i < ids.length then ρ (ids.getD i 0) L else .none) F H' w := by
  obtain ⟨e1, e2⟩ := pickH_get hp
  have := h.sel hok (place ids) (fun i => ids.getD i 0) (H' := H') (fun i h' hi => by
      obtain ⟨b, k, h1, h2, h3⟩ := e2 i h' hi
      exact ⟨k, by simpa [List.getD, h1] using h2, h3⟩)
    (fun b b' hb => by
      have := place_some hb
      refine ⟨by rw [e1]; exact (List.getElem?_eq_some_iff.1 this).1, by simp [List.getD, this]⟩)
    (fun i j hi hj he => by
      rw [e1] at hi hj
      simp only [List.getD, List.getElem?_eq_getElem hi, List.getElem?_eq_getElem hj, Option.getD_some] at he
      exact (List.getElem_inj hn).1 he)
  simpa [e1] using this
theorem place_rho {ρ : Rho} {ids : List Nat} : ∀ b b', place ids b = some b' → ∀ L, (fun i L => if i < ids.length then ρ (ids.getD i 0) L else .none : Rho) b' L = ρ b L := by
  intro b b' hb L
  have h := place_some hb
  obtain ⟨h1, h2⟩ := List.getElem?_eq_some_iff.1 h
  simp [h1, h2]

/-- all references of a heap's boxes lie in it -/
def HCl (H : Heap) (n : Nat) : Prop := ∀ h ∈ H, h.box = true → ∀ e ∈ h.es, ∀ b ∈ refsL e, b < n
theorem pickH_cl {H H' : Heap} {ids : List Nat} (hp : pickH H (place ids) ids = some H') (hok : HOk H) : HCl H' ids.length := by
  intro h hh hbox e he b hb
  obtain ⟨i, hi⟩ := List.mem_iff_getElem?.1 hh
  obtain ⟨b0, k, h1, h2, h3⟩ := (pickH_get hp).2 i h hi
  unfold Blk.ren at h3
  split at h3
  · split at h3
    · rename_i e0 he0
      simp only [Option.map_eq_some_iff] at h3
      obtain ⟨e', h3, rfl⟩ := h3
      simp at he
      subst he
      obtain ⟨a, ha⟩ := renL_refs _ _ _ h3 b hb
      exact (List.getElem?_eq_some_iff.1 (place_some ha)).1
    · cases h3
  · rename_i hb0
    injection h3 with h3
    subst h3
    exact absurd hbox hb0
/-- what is closed is not turned by a renaming that keeps its numbers -/
theorem Blk.ren_id {g : Nat → Option Nat} {h h' : Blk} {n : Nat} (hg : ∀ b, b < n → g b = some b) (hc : h.box = true → ∀ e ∈ h.es, ∀ b ∈ refsL e, b < n) (hr : h.ren g = some h') : h' = h := by
  unfold Blk.ren at hr
  split at hr
  · rename_i hbox
    split at hr
    · rename_i e he
      simp only [Option.map_eq_some_iff] at hr
      obtain ⟨e', hr, rfl⟩ := hr
      rw [renL_id g e (fun b hb => hg b (hc hbox e (by rw [he]; simp) b hb))] at hr
      injection hr with hr
      subst hr
      cases h
      simp_all
    · cases hr
  · injection hr with hr
    exact hr.symm
end Go.AM
