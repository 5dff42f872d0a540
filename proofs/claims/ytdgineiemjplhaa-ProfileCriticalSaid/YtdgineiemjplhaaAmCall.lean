/- A call in the executor against a call in the model. -/
import Derived.Test.YtdgineiemjplhaaAmOpsG
set_option linter.unusedVariables false
set_option linter.unusedSimpArgs false
namespace Go.AM
open Go Go.RowKit

theorem renH_get {g : Nat → Option Nat} : ∀ {H H' : Heap}, renH g H = some H' → H'.length = H.length ∧ (∀ (i : Nat) (k : Blk), H[i]? = some k → ∃ k', H'[i]? = some k' ∧ k.ren g = some k') ∧ ∀ (i : Nat) (k' : Blk), H'[i]? = some k' → ∃ k, H[i]? = some k ∧ k.ren g = some k'
  | [], H', h => by simp [renH] at h; subst h; simp
  | x :: xs, H', h => by
    simp only [renH, Option.bind_eq_some_iff, Option.map_eq_some_iff] at h
    obtain ⟨a, ha, as, has, rfl⟩ := h
    obtain ⟨h1, h2, h3⟩ := renH_get has
    refine ⟨by simp [h1], fun i k hk => ?_, fun i k hk => ?_⟩
    · cases i with
      | zero => simp at hk; subst hk; exact ⟨a, rfl, ha⟩
      | succ i => simpa using h2 i k (by simpa using hk)
    · cases i with
      | zero => simp at hk; subst hk; exact ⟨x, rfl, ha⟩
      | succ i => simpa using h3 i k (by simpa using hk)
mutual
theorem ren_inv {p g : Nat → Option Nat} (hpg : ∀ b b', p b = some b' → g b' = some b) : ∀ (v v' : V), v.ren p = some v' → v'.ren g = some v
  | .bool b, v', h => by simp [V.ren] at h; subst h; rfl
  | .int k n, v', h => by simp [V.ren] at h; subst h; rfl
  | .str s, v', h => by simp [V.ren] at h; subst h; rfl
  | .nilp, v', h => by simp [V.ren] at h; subst h; rfl
  | .nils, v', h => by simp [V.ren] at h; subst h; rfl
  | .nilf, v', h => by simp [V.ren] at h; subst h; rfl
  | .undef, v', h => by simp [V.ren] at h; subst h; rfl
  | .tsl z es, v', h => by simp [V.ren] at h; subst h; rfl
  | .tptr cs o, v', h => by simp [V.ren] at h; subst h; rfl
  | .ptr b L i o, v', h => by
    simp only [V.ren, Option.map_eq_some_iff] at h
    obtain ⟨a, ha, rfl⟩ := h
    simp [V.ren, hpg b a ha]
  | .sl z b L o n, v', h => by
    simp only [V.ren, Option.map_eq_some_iff] at h
    obtain ⟨a, ha, rfl⟩ := h
    simp [V.ren, hpg b a ha]
  | .mp b, v', h => by
    simp only [V.ren, Option.map_eq_some_iff] at h
    obtain ⟨a, ha, rfl⟩ := h
    simp [V.ren, hpg b a ha]
  | .agg cs, v', h => by
    simp only [V.ren, Option.map_eq_some_iff] at h
    obtain ⟨a, ha, rfl⟩ := h
    simp [V.ren, renL_inv hpg cs a ha]
  | .tup cs, v', h => by
    simp only [V.ren, Option.map_eq_some_iff] at h
    obtain ⟨a, ha, rfl⟩ := h
    simp [V.ren, renL_inv hpg cs a ha]
  | .fn f cs, v', h => by
    simp only [V.ren, Option.map_eq_some_iff] at h
    obtain ⟨a, ha, rfl⟩ := h
    simp [V.ren, renL_inv hpg cs a ha]
theorem renL_inv {p g : Nat → Option Nat} (hpg : ∀ b b', p b = some b' → g b' = some b) : ∀ (cs cs' : List V), renL p cs = some cs' → renL g cs' = some cs
  | [], cs', h => by simp [renL] at h; subst h; rfl
  | v :: vs, cs', h => by
    simp only [renL, Option.bind_eq_some_iff, Option.map_eq_some_iff] at h
    obtain ⟨a, ha, as, has, rfl⟩ := h
    simp [renL, ren_inv hpg v a ha, renL_inv hpg vs as has]
end
theorem Blk.ren_inv {p g : Nat → Option Nat} (hpg : ∀ b b', p b = some b' → g b' = some b) {k k' : Blk} (h : k.ren p = some k') : k'.ren g = some k := by
  unfold Blk.ren at h
  split at h
  · rename_i hbox
    split at h
    · rename_i e he
      simp only [Option.map_eq_some_iff] at h
      obtain ⟨e', h, rfl⟩ := h
      unfold Blk.ren
      simp only [hbox, if_true, renL_inv hpg e e' h, Option.map_some, Option.some.injEq]
      cases k
      simp_all
    · cases h
  · rename_i hbox
    injection h with h
    subst h
    unfold Blk.ren
    rw [if_neg hbox]

/-- what comes back from a call is put beside what was there -/
def joinR (ρ ρs' : Rho) (ids : List Nat) (n : Nat) : Rho := fun b L => match place ids b with
  | some i => ρs' i L
  | none => if n ≤ b then ρs' (ids.length + (b - n)) L else ρ b L
section
variable {ρ ρs ρs' : Rho} {F F' : Fz} {H Hs' H' : Heap} {w w' : World} {ids : List Nat}
theorem Sim.join (h : Sim ρ F H w) (hok : HOk H) (hn : ids.Nodup) (hlt : ∀ b ∈ ids, b < H.length) (hρ : ∀ i L, ρs i L = if i < ids.length then ρ (ids.getD i 0) L else none) (hE : Ext ρs F w ρs' F' w') (hS : Sim ρs' F' Hs' w') (hoks : HOk Hs') (hle : ids.length ≤ Hs'.length)
    (hlen : H'.length = H.length + (Hs'.length - ids.length)) (h1 : ∀ (i b : Nat), ids[i]? = some b → ∃ k k', Hs'[i]? = some k ∧ H'[b]? = some k' ∧ k.ren (backG ids H.length) = some k') (h2 : ∀ (b : Nat) (k : Blk), b < H.length → place ids b = none → H'[b]? = some k → H[b]? = some k)
    (h3 : ∀ (j : Nat) (k' : Blk), H'[H.length + j]? = some k' → ∃ k, Hs'[ids.length + j]? = some k ∧ k.ren (backG ids H.length) = some k') :
    Ext ρ F w (joinR ρ ρs' ids H.length) F' w' ∧ Sim (joinR ρ ρs' ids H.length) F' H' w' ∧ ∀ v v' u, Rel ρs' F' v u → v.ren (backG ids H.length) = some v' → Rel (joinR ρ ρs' ids H.length) F' v' u := by
  have hp : ∀ {b i}, ids[i]? = some b → place ids b = some i := fun hb => place_of hn hb
  have himg : ∀ {b L r}, ρ b L = some r → place ids b = none → ∀ b' L' r', ρs b' L' = some r' → r'.blk ≠ r.blk := by
    intro b L r hr hb b' L' r' hr' he
    rw [hρ] at hr'
    split at hr'
    · rename_i hi
      have hg : ids[b']? = some (ids.getD b' 0) := by simp [hi]
      have := h.inj _ L' r' b L r hr' hr he
      rw [this] at hg
      rw [hp hg] at hb
      cases hb
    · cases hr'
  have hle' : Rle ρ (joinR ρ ρs' ids H.length) := by
    intro b L r hr
    unfold joinR
    split
    · rename_i i hi
      have hg := place_some hi
      refine hE.rho i L r ?_
      rw [hρ, if_pos (List.getElem?_eq_some_iff.1 hg).1]
      simpa [List.getD, hg] using hr
    · have := (h.img b L r hr).1
      rw [if_neg (by omega)]
      exact hr
  have hg' : ∀ b b', backG ids H.length b = some b' → ∀ L, b < Hs'.length → joinR ρ ρs' ids H.length b' L = ρs' b L := by
    intro b b' hb L hbl
    simp only [backG, Option.some.injEq] at hb
    unfold joinR
    split at hb
    · rename_i hi
      have hg : ids[b]? = some b' := by rw [← hb]; simp [hi]
      rw [hp hg]
    · rename_i hi
      have hnp : place ids b' = none := by
        cases hq : place ids b' with
        | none => rfl
        | some q =>
          have := hlt b' (List.mem_of_getElem? (place_some hq))
          omega
      rw [hnp, ← hb]
      simp only
      rw [if_pos (by omega)]
      congr 1
      omega
  have hrel : ∀ v v' u, Rel ρs' F' v u → v.ren (backG ids H.length) = some v' → Rel (joinR ρ ρs' ids H.length) F' v' u := by
    intro v v' u hv hr
    refine Rel.ren (ρ := fun b L => joinR ρ ρs' ids H.length ((backG ids H.length b).getD 0) L) (fun b b' hb L => by rw [hb]; rfl) (hv.mono (fun b L r hr => ?_) (.refl _)) v' hr
    have hbl := (hS.img b L r hr).1
    exact (hg' b _ rfl L hbl).trans hr
  have hnew : ∀ b L r, joinR ρ ρs' ids H.length b L = some r → (∃ L0 r0, ρ b L0 = some r0 ∧ r0.blk = r.blk) ∨ w.heap.size ≤ r.blk := by
    intro b L r hr
    unfold joinR at hr
    split at hr
    · rename_i i hi
      have hg := place_some hi
      rcases hE.new i L r hr with ⟨L0, r0, h0, e0⟩ | h0
      · rw [hρ, if_pos (List.getElem?_eq_some_iff.1 hg).1] at h0
        simp [List.getD, hg] at h0
        exact .inl ⟨L0, r0, h0, e0⟩
      · exact .inr h0
    · split at hr
      · rcases hE.new _ L r hr with ⟨L0, r0, h0, e0⟩ | h0
        · rw [hρ, if_neg (by omega)] at h0
          cases h0
        · exact .inr h0
      · exact .inl ⟨L, r, hr, rfl⟩
  have himgs : ∀ b L r, ρs b L = some r → ∃ b0, ρ b0 L = some r := by
    intro b L r hr
    rw [hρ] at hr
    split at hr
    · exact ⟨_, hr⟩
    · cases hr
  have hExt : Ext ρ F w (joinR ρ ρs' ids H.length) F' w' := by
    refine ⟨hE.os, hE.tape, hE.output, hE.size, fun g hg hnn => hE.keep g hg (fun b L r hr he => ?_), hle', hnew, hE.fle, fun g o x hx => ?_⟩
    · obtain ⟨b0, h0⟩ := himgs b L r hr
      exact hnn b0 L r h0 he
    · rcases hE.fnew g o x hx with h0 | h0 | ⟨b, L, r, hr, he⟩
      · exact .inl h0
      · exact .inr (.inl h0)
      · obtain ⟨b0, h0⟩ := himgs b L r hr
        exact .inr (.inr ⟨b0, L, r, h0, he⟩)
  refine ⟨hExt, ⟨?_, ?_, ?_, ?_, ?_, hS.frz, ?_⟩, hrel⟩
  · intro b L r hr
    refine ⟨?_, ?_⟩
    · unfold joinR at hr
      split at hr
      · rename_i i hi
        have := hlt b (List.mem_of_getElem? (place_some hi))
        omega
      · split at hr
        · have := (hS.img _ L r hr).1
          omega
        · have := (h.img b L r hr).1
          omega
    · unfold joinR at hr
      split at hr
      · exact (hS.img _ L r hr).2
      · split at hr
        · exact (hS.img _ L r hr).2
        · exact Nat.lt_of_lt_of_le (h.img b L r hr).2 hE.size
  · intro b k r hb hr
    have blk : ∀ (i : Nat) (k0 : Blk), Hs'[i]? = some k0 → k0.ren (backG ids H.length) = some k → ρs' i k.es.length = some r → ∃ cur, w'.heap[r.blk]? = some (.cells cur r.ty (0, 0)) ∧ cur.size = r.cap * r.z ∧ r.z = k.z ∧ k.es.length ≤ r.cap ∧ RelB (joinR ρ ρs' ids H.length) F' k.z k.es cur := by
      intro i k0 hk0 hren hr0
      obtain ⟨e1, e2, e3⟩ := Blk.ren_len hren
      rw [e1] at hr0
      obtain ⟨cur, c1, c2, c3, c4, c5⟩ := hS.blk i k0 r hk0 hr0
      have c5 : RelB ρs' F' k0.z k0.es cur := c5
      refine ⟨cur, c1, c2, by rw [e2]; exact c3, by rw [e1]; exact c4, ?_⟩
      refine Blk.ren_rel (ρ := fun b L => joinR ρ ρs' ids H.length ((backG ids H.length b).getD 0) L) (fun b b' hb L => by rw [hb]; rfl) hren (hoks.get hk0) (c5.mono (fun b L r hr => ?_) (.refl _))
      exact (hg' b _ rfl L (hS.img b L r hr).1).trans hr
    unfold joinR at hr
    split at hr
    · rename_i i hi
      obtain ⟨k0, k', hk0, hk', hren⟩ := h1 i b (place_some hi)
      rw [hb] at hk'
      injection hk' with hk'
      subst hk'
      exact blk i k0 hk0 hren hr
    · rename_i hnp
      split at hr
      · rename_i hbn
        obtain ⟨k0, hk0, hren⟩ := h3 (b - H.length) k (by rw [← hb]; congr 1; omega)
        exact blk _ k0 hk0 hren hr
      · rename_i hbn
        have hb0 := h2 b k (by omega) hnp hb
        obtain ⟨cur, c1, c2, c3, c4, c5⟩ := h.blk b k r hb0 hr
        have c5 : RelB ρ F k.z k.es cur := c5
        refine ⟨cur, ?_, c2, c3, c4, c5.mono hle' hE.fle⟩
        rw [hE.keep r.blk (h.img b _ r hr).2 (himg hr hnp)]
        exact c1
  · intro b k r o x hb hr hx
    unfold joinR at hr
    split at hr
    · rename_i i hi
      obtain ⟨k0, k', hk0, hk', hren⟩ := h1 i b (place_some hi)
      rw [hb] at hk'
      injection hk' with hk'
      subst hk'
      obtain ⟨e1, e2, e3⟩ := Blk.ren_len hren
      rw [e1] at hr
      rw [e2, e3]
      exact hS.fz i k0 r o x hk0 hr hx
    · rename_i hnp
      split at hr
      · rename_i hbn
        obtain ⟨k0, hk0, hren⟩ := h3 (b - H.length) k (by rw [← hb]; congr 1; omega)
        obtain ⟨e1, e2, e3⟩ := Blk.ren_len hren
        rw [e1] at hr
        rw [e2, e3]
        exact hS.fz _ k0 r o x hk0 hr hx
      · rename_i hbn
        have hb0 := h2 b k (by omega) hnp hb
        refine h.fz b k r o x hb0 hr ?_
        rcases hE.fnew r.blk o x hx with h0 | h0 | ⟨b', L', r', hr', he'⟩
        · exact h0
        · have := (h.img b _ r hr).2; omega
        · exact absurd he' (himg hr hnp b' L' r' hr')
  · intro b k L r hb hr
    unfold joinR at hr
    split at hr
    · rename_i i hi
      obtain ⟨k0, k', hk0, hk', hren⟩ := h1 i b (place_some hi)
      rw [hb] at hk'
      injection hk' with hk'
      subst hk'
      rw [(Blk.ren_len hren).1]
      exact hS.len i k0 L r hk0 hr
    · rename_i hnp
      split at hr
      · rename_i hbn
        obtain ⟨k0, hk0, hren⟩ := h3 (b - H.length) k (by rw [← hb]; congr 1; omega)
        rw [(Blk.ren_len hren).1]
        exact hS.len _ k0 L r hk0 hr
      · exact h.len b k L r (h2 b k (by omega) hnp hb) hr
  · intro b1 L1 r1 b2 L2 r2 hr1 hr2 he
    -- each block is one of those handed back (with its number there) or an old one
    have key : ∀ b L r, joinR ρ ρs' ids H.length b L = some r → (∃ i, ρs' i L = some r ∧ backG ids H.length i = some b) ∨ (ρ b L = some r ∧ place ids b = none) := by
      intro b L r hr
      unfold joinR at hr
      split at hr
      · rename_i i hi
        have hg := place_some hi
        refine .inl ⟨i, hr, ?_⟩
        simp only [backG]
        rw [if_pos (List.getElem?_eq_some_iff.1 hg).1]
        simp [List.getD, hg]
      · rename_i hnp
        split at hr
        · rename_i hbn
          refine .inl ⟨_, hr, ?_⟩
          simp only [backG]
          rw [if_neg (by omega)]
          congr 1
          omega
        · exact .inr ⟨hr, hnp⟩
    have mix : ∀ {L1 : Nat} {r1 : RB} {b2 L2 : Nat} {r2 : RB} {i : Nat}, ρs' i L1 = some r1 → ρ b2 L2 = some r2 → place ids b2 = none → r1.blk ≠ r2.blk := by
      intro L1 r1 b2 L2 r2 i hi h2 hnp he
      rcases hE.new i L1 r1 hi with ⟨L0, r0, h0, e0⟩ | h0
      · exact himg h2 hnp i L0 r0 h0 (e0.trans he)
      · have := (h.img b2 L2 r2 h2).2; omega
    rcases key b1 L1 r1 hr1 with ⟨i, hi, gi⟩ | ⟨hi, ni⟩ <;> rcases key b2 L2 r2 hr2 with ⟨j, hj, gj⟩ | ⟨hj, nj⟩
    · have := hS.inj i L1 r1 j L2 r2 hi hj he
      subst this
      rw [gi] at gj
      exact Option.some.inj gj
    · exact absurd he (mix hi hj nj)
    · exact absurd he.symm (mix hj hi ni)
    · exact h.inj b1 L1 r1 b2 L2 r2 hi hj he
  · intro b k r hb hr hz
    have old : ∀ (i : Nat) (k0 : Blk), Hs'[i]? = some k0 → k0.ren (backG ids H.length) = some k → ρs' i 0 = some r → MapOk (joinR ρ ρs' ids H.length) F' w' k r ∧ ∀ L r', ρs' i L = some r' → L = 0 := by
      intro i k0 hk0 hren hr0
      obtain ⟨⟨m0, ag, e, es, ens, clock, m1, m2, m3, m4⟩, m5⟩ := hS.mp i k0 r hk0 hr0 hz
      have hk : k0 = k := by
        unfold Blk.ren at hren
        rw [if_neg (by simp [m0])] at hren
        exact Option.some.inj hren
      subst hk
      exact ⟨⟨m0, ag, e, es, ens, clock, m1, m2, m3, fun i row x hi hx => MRow.trees (fun v hv => (hoks.get hk0).tree m0 row (by rw [m1]; exact List.mem_cons_of_mem _ (List.mem_of_getElem? hi)) v hv) (m4 i row x hi hx)⟩, m5⟩
    unfold joinR at hr
    split at hr
    · rename_i i hi
      obtain ⟨k0, k', hk0, hk', hren⟩ := h1 i b (place_some hi)
      rw [hb] at hk'
      injection hk' with hk'
      subst hk'
      obtain ⟨a1, a2⟩ := old i k0 hk0 hren hr
      refine ⟨a1, fun L r' hr' => a2 L r' ?_⟩
      unfold joinR at hr'
      rwa [hi] at hr'
    · rename_i hnp
      split at hr
      · rename_i hbn
        obtain ⟨k0, hk0, hren⟩ := h3 (b - H.length) k (by rw [← hb]; congr 1; omega)
        obtain ⟨a1, a2⟩ := old _ k0 hk0 hren hr
        refine ⟨a1, fun L r' hr' => a2 L r' ?_⟩
        unfold joinR at hr'
        rw [hnp] at hr'
        simpa [if_pos hbn] using hr'
      · rename_i hbn
        have hb0 := h2 b k (by omega) hnp hb
        obtain ⟨a1, a2⟩ := h.mp b k r hb0 hr hz
        refine ⟨a1.mono hle' hE.fle (hE.keep r.blk (h.img b _ r hr).2 (himg hr hnp)), fun L r' hr' => a2 L r' ?_⟩
        unfold joinR at hr'
        rw [hnp] at hr'
        simpa [if_neg hbn] using hr'

/-- what a call in the executor stands for -/
structure CallKept (Hs Hs' : Heap) (d : Bool) : Prop where
  ok : HOk Hs'
  len : Hs.length ≤ Hs'.length
  same : d = false → Hs'.take Hs.length = Hs
structure CallRes (P : Program) (f : FuncId) (Hs : Heap) (v : V) (Hs' : Heap) (d : Bool) (args : List V) : Prop where
  fn : ∃ fn, P.funcs[f]? = some fn ∧ (fn.name == "runtime.NumGoroutine") = false ∧ fn.body.isSome = true
  run : ∀ (ρ : Rho) (F : Fz) (w : World) (us : List Value), Sim ρ F Hs w → RelL ρ F args us → Calls P f us.toArray w fun e w' => CallKept Hs Hs' d ∧ ∃ u ρ' F', e = .returned u ∧ Ext ρ F w ρ' F' w' ∧ Sim ρ' F' Hs' w' ∧ Rel ρ' F' v u ∧ (d = false → ∀ b L r, ρ' b L = some r → b < Hs.length → ρ b L = some r)
def CallOk (P : Program) (call : CallT) : Prop := ∀ f args Hs v Hs' d, call f args Hs = some (v, Hs', d) → HOk Hs → HCl Hs Hs.length → CallRes P f Hs v Hs' d args

theorem putBack_len (Hn : Heap) : ∀ (ids : List Nat) (i : Nat) (H : Heap), (putBack Hn i ids H).length = H.length
  | [], i, H => rfl
  | b :: ids, i, H => by rw [putBack, putBack_len Hn ids]; simp
theorem putBack_get (Hn : Heap) : ∀ (ids : List Nat) (i : Nat) (H : Heap) (b : Nat), ids.Nodup → (∀ b ∈ ids, b < H.length) → (putBack Hn i ids H)[b]? = match place ids b with | some j => some (Hn.getD (i + j) default) | none => H[b]?
  | [], i, H, b, hn, hlt => by simp [putBack, place]
  | c :: ids, i, H, b, hn, hlt => by
    have hn2 := List.nodup_cons.1 hn
    rw [putBack, putBack_get Hn ids (i + 1) (H.set c (Hn.getD i default)) b hn2.2 (fun x hx => by simpa using hlt x (List.mem_cons_of_mem _ hx))]
    by_cases e : c = b
    · subst e
      have h1 : place ids c = none := by
        cases hq : place ids c with
        | none => rfl
        | some q => exact absurd (List.mem_of_getElem? (place_some hq)) hn2.1
      have h2 : place (c :: ids) c = some 0 := place_of hn rfl
      have hc := hlt c List.mem_cons_self
      rw [h1, h2]
      simp [hc]
    · cases hq : place ids b with
      | none =>
        have h2 : place (c :: ids) b = none := by
          cases hq2 : place (c :: ids) b with
          | none => rfl
          | some q =>
            have := place_some hq2
            cases q with
            | zero => simp at this; exact absurd this e
            | succ q =>
              rw [List.getElem?_cons_succ] at this
              rw [place_of hn2.2 this] at hq
              cases hq
        rw [h2]
        simp [List.getElem?_set, e]
      | some q =>
        have h2 : place (c :: ids) b = some (q + 1) := place_of hn (by simpa using place_some hq)
        rw [h2]
        simp only
        congr 2
        omega

theorem relT_nt1 {F F' : Fz} {v : V} {u : Value} (h : Rel ρ F v u) (hn : nt1 v = true) : Rel ρ F' v u := by
  cases v with
  | sl z b L o n =>
    cases h with
    | t h => cases h
    | sl _ _ _ _ c r h1 h2 h3 h4 => exact .sl _ _ _ _ c r h1 h2 h3 h4
  | _ => first
    | exact .t ((h.tree (V.tree_of_flat (by simpa [nt1] using hn))).flat (by simpa [nt1] using hn))
    | (simp [nt1, V.flat] at hn)
theorem relT_nt2 {F F' : Fz} {v : V} {u : Value} (h : Rel ρ F v u) (hn : nt2 v = true) : Rel ρ F' v u := by
  cases v with
  | agg cs =>
    obtain ⟨us, rfl, h1, h2⟩ := h.agg_inv
    refine .agg cs us h1.1 (fun j v u hv hu => relT_nt1 (h1.2 j v u hv hu) ?_) h2
    simp only [nt2, List.all_eq_true] at hn
    exact hn v (List.mem_of_getElem? hv)
  | _ => exact relT_nt1 h (by simpa [nt2] using hn)
theorem relT_nt3 {F F' : Fz} {v : V} {u : Value} (h : Rel ρ F v u) (hn : nt3 v = true) : Rel ρ F' v u := by
  cases v with
  | tup cs =>
    obtain ⟨us, rfl, h1⟩ := h.tup_inv
    refine .tup cs us h1.1 (fun j v u hv hu => relT_nt2 (h1.2 j v u hv hu) ?_)
    simp only [nt3, List.all_eq_true] at hn
    exact hn v (List.mem_of_getElem? hv)
  | _ => exact relT_nt2 h (by simpa [nt3] using hn)
theorem nt1_ren {g : Nat → Option Nat} {v v' : V} (h : v.ren g = some v') (hn : nt1 v = true) : nt1 v' = true := by
  cases v <;> simp [V.ren, nt1, V.flat, Option.map_eq_some_iff] at h hn <;> first
    | (subst h; rfl)
    | (obtain ⟨a, _, rfl⟩ := h; rfl)
theorem renL_all {g : Nat → Option Nat} {p : V → Bool} (hp : ∀ v v', v.ren g = some v' → p v = true → p v' = true) {cs cs' : List V} (h : renL g cs = some cs') (hn : cs.all p = true) : cs'.all p = true := by
  rw [List.all_eq_true] at hn ⊢
  intro v' hv'
  obtain ⟨j, hj⟩ := List.mem_iff_getElem?.1 hv'
  obtain ⟨v, hv, hr⟩ := (renL_get h).2 j v' hj
  exact hp v v' hr (hn v (List.mem_of_getElem? hv))
theorem nt2_ren {g : Nat → Option Nat} {v v' : V} (h : v.ren g = some v') (hn : nt2 v = true) : nt2 v' = true := by
  cases v with
  | agg cs =>
    simp only [V.ren, Option.map_eq_some_iff] at h
    obtain ⟨a, ha, rfl⟩ := h
    exact renL_all (fun v v' => nt1_ren) ha hn
  | _ => 
    have h1 := nt1_ren h (by simpa [nt2] using hn)
    cases v' <;> simp_all [nt2, nt1, V.flat]
theorem nt3_ren {g : Nat → Option Nat} {v v' : V} (h : v.ren g = some v') (hn : nt3 v = true) : nt3 v' = true := by
  cases v with
  | tup cs =>
    simp only [V.ren, Option.map_eq_some_iff] at h
    obtain ⟨a, ha, rfl⟩ := h
    exact renL_all (fun v v' => nt2_ren) ha hn
  | _ =>
    have h1 := nt2_ren h (by simpa [nt3] using hn)
    cases v' <;> simp_all [nt3, nt2, nt1, V.flat]
end
end Go.AM
