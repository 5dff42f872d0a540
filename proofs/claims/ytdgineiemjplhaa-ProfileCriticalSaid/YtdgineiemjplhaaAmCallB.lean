/- A call operation of the executor against the model's. -/
import Derived.Test.YtdgineiemjplhaaAmCall
set_option linter.unusedVariables false
set_option linter.unusedSimpArgs false
namespace Go.AM
open Go Go.RowKit
section
variable {P : Program} {ρ : Rho} {F : Fz} {H : Heap} {w : World} {fr : List V} {a : Act}

theorem HOk.ren {g : Nat → Option Nat} {H H' : Heap} (h : HOk H) (hr : renH g H = some H') : HOk H' := by
  intro k hk
  obtain ⟨i, hi⟩ := List.mem_iff_getElem?.1 hk
  obtain ⟨k0, hk0, hren⟩ := (renH_get hr).2.2 i k hi
  exact Blk.ren_ok hren (h.get hk0)
theorem HOk.drop {H : Heap} (h : HOk H) (n : Nat) : HOk (H.drop n) := fun k hk => h k (List.mem_of_mem_drop hk)
theorem HOk.nil : HOk [] := fun k hk => by cases hk
theorem pickH_lt {g : Nat → Option Nat} {H H' : Heap} : ∀ {ids : List Nat}, pickH H g ids = some H' → ∀ b ∈ ids, b < H.length
  | [], _, b, hb => by cases hb
  | c :: ids, h, b, hb => by
    simp only [pickH, Option.bind_eq_some_iff, Option.map_eq_some_iff] at h
    obtain ⟨k, hk, k', hk', Hs, hHs, rfl⟩ := h
    rcases List.mem_cons.1 hb with rfl | hb
    · exact (List.getElem?_eq_some_iff.1 hk).1
    · exact pickH_lt hHs b hb
/-- new blocks without anything frozen: nothing need be frozen for them -/
theorem Sim.thaw {ρ' : Rho} {F' : Fz} {H0 l' : Heap} {w' : World} (h : Sim ρ F H w) (hk : ∀ g, g < w.heap.size → w'.heap[g]? = w.heap[g]?) (hfle : Fle F F') (hl : H0.length = H.length) (hJ : Sim (joinR ρ ρ' [] H.length) F' (H0 ++ l') w') (hf : ∀ k ∈ l', ∀ e ∈ k.es, ∀ v ∈ e, v.flat = true) (hnew : ∀ b L r, ρ' b L = some r → w.heap.size ≤ r.blk) :
    Sim (joinR ρ ρ' [] H.length) F (H ++ l') w' := by
  have hold : ∀ b L, b < H.length → joinR ρ ρ' [] H.length b L = ρ b L := fun b L hb => by
    simp only [joinR, place, List.idxOf?, List.findIdx?_nil]
    rw [if_neg (by omega)]
  have hnw : ∀ b L r, joinR ρ ρ' [] H.length b L = some r → H.length ≤ b → w.heap.size ≤ r.blk := fun b L r hr hb => by
    simp only [joinR, place, List.idxOf?, List.findIdx?_nil] at hr
    rw [if_pos hb] at hr
    exact hnew _ L r hr
  have hle : Rle ρ (joinR ρ ρ' [] H.length) := fun b L r hr => by rw [hold b L (h.img b L r hr).1]; exact hr
  refine ⟨fun b L r hr => ?_, fun b k r hb hr => ?_, fun b k r o x hb hr hx => ?_, fun b k L r hb hr => ?_, hJ.inj, fun g o x hx => ?_, fun b k r hb hr hz => ?_⟩
  · have := hJ.img b L r hr
    simpa [hl] using this
  · by_cases hlt : b < H.length
    · rw [List.getElem?_append_left hlt] at hb
      rw [hold b _ hlt] at hr
      obtain ⟨cur, c1, c2, c3, c4, c5⟩ := h.blk b k r hb hr
      have c5 : RelB ρ F k.z k.es cur := c5
      exact ⟨cur, by rw [hk _ (h.img b _ r hr).2]; exact c1, c2, c3, c4, c5.mono hle (.refl _)⟩
    · rw [List.getElem?_append_right (by omega)] at hb
      obtain ⟨cur, c1, c2, c3, c4, c5⟩ := hJ.blk b k r (by rw [List.getElem?_append_right (by omega), hl]; exact hb) hr
      refine ⟨cur, c1, c2, c3, c4, fun i e j v he hv => ?_⟩
      obtain ⟨u, hu, hrel⟩ := c5 i e j v he hv
      have hfl := hf k (List.mem_of_getElem? hb) e (List.mem_of_getElem? he) v (List.mem_of_getElem? hv)
      exact ⟨u, hu, .t ((hrel.tree (V.tree_of_flat hfl)).flat hfl)⟩
  · by_cases hlt : b < H.length
    · rw [List.getElem?_append_left hlt] at hb
      rw [hold b _ hlt] at hr
      exact h.fz b k r o x hb hr hx
    · have := cell_lt (h.frz _ _ _ hx)
      have := hnw b _ r hr (by omega)
      omega
  · by_cases hlt : b < H.length
    · rw [List.getElem?_append_left hlt] at hb
      rw [hold b _ hlt] at hr
      exact h.len b k L r hb hr
    · rw [List.getElem?_append_right (by omega)] at hb
      exact hJ.len b k L r (by rw [List.getElem?_append_right (by omega), hl]; exact hb) hr
  · exact hJ.frz g o x (hfle _ _ _ hx)
  · by_cases hlt : b < H.length
    · rw [List.getElem?_append_left hlt] at hb
      rw [hold b _ hlt] at hr
      obtain ⟨a1, a2⟩ := h.mp b k r hb hr hz
      exact ⟨a1.mono hle (.refl _) (hk _ (h.img b _ r hr).2), fun L r' hr' => a2 L r' (by rwa [hold b L hlt] at hr')⟩
    · rw [List.getElem?_append_right (by omega)] at hb
      obtain ⟨⟨m0, ag, e, es, ens, clock, m1, m2, m3, m4⟩, a2⟩ := hJ.mp b k r (by rw [List.getElem?_append_right (by omega), hl]; exact hb) hr hz
      exact ⟨⟨m0, ag, e, es, ens, clock, m1, m2, m3, fun i row x hi hx => MRow.flat (fun v hv => hf k (List.mem_of_getElem? hb) row (by rw [m1]; exact List.mem_cons_of_mem _ (List.mem_of_getElem? hi)) v hv) (m4 i row x hi hx)⟩, a2⟩

theorem callV_sound {call : CallT} {pure : FuncId → Bool} (hcall : CallOk P call) (hok : HOk H) (hs : Sim ρ F H w) {f : FuncId} {args : List V} {us : List Value} {v : V} {e : Eff} (ha : RelL ρ F args us) (h : callV call pure H f args = some (v, e)) :
    (∃ fn, P.funcs[f]? = some fn ∧ (fn.name == "runtime.NumGoroutine") = false ∧ fn.body.isSome = true) ∧ Calls P f us.toArray w fun en w' => ∃ u, en = .returned u ∧ Step ρ F H w v e u w' := by
  unfold callV at h
  split at h
  · simp only [Option.bind_eq_some_iff, Option.map_eq_some_iff] at h
    obtain ⟨⟨as, fs⟩, hsn, ⟨r, l, d⟩, hc, v', hv', l', hl', he⟩ := h
    injection he with e1 e2
    subst e1
    obtain ⟨F1, hE1, hS1, hA1⟩ := snapA_sound hs hok ha hsn
    have hC := hcall f as [] r l d hc HOk.nil (fun k hk => by cases hk)
    refine ⟨hC.fn, ?_⟩
    have hs0 : Sim Rho.none F1 [] w := ⟨fun b L r hr => by simp [Rho.none] at hr, fun b k r hb => by simp at hb, fun b k r o x hb => by simp at hb, fun b k L r hb => by simp at hb, fun b1 L1 r1 b2 L2 r2 h => by simp [Rho.none] at h, hS1.frz, fun b k r hb => by simp at hb⟩
    refine (hC.run Rho.none F1 w us hs0 (hA1 Rho.none)).mono fun en w' hh => ?_
    obtain ⟨hC, u, ρ', F', rfl, hE, hS, hR, hD⟩ := hh
    refine ⟨u, rfl, ?_⟩
    have hloc : ∀ b L r, joinR ρ ρ' [] H.length b L = some r → b < H.length → ρ b L = some r := fun b L r hr hb => by
      simp only [joinR, place, List.idxOf?, List.findIdx?_nil] at hr
      rwa [if_neg (by omega)] at hr
    have hlen := (renH_get hl').1
    have hfl : (freezeH H fs).length = H.length := freezeH_len fs H
    obtain ⟨hE2, hS2, hR2⟩ := Sim.join (ρs := Rho.none) (ids := []) (H' := freezeH H fs ++ l') hS1 (freezeH_ok hok) List.nodup_nil (by simp) (fun i L => by simp [Rho.none]) hE hS hC.ok (Nat.zero_le _)
      (by simp [hlen]) (fun i b hb => by simp at hb) (fun b k hb _ hk => by rwa [List.getElem?_append_left hb] at hk) (fun j k' hk => by
        rw [List.getElem?_append_right (by omega), Nat.add_sub_cancel_left] at hk
        obtain ⟨k0, hk0, hren⟩ := (renH_get hl').2.2 j k' hk
        exact ⟨k0, by simpa using hk0, by rw [hfl]; exact hren⟩)
    rw [hfl] at hE2 hS2 hR2
    have hR3 := hR2 r v' u hR hv'
    split at e2
    · rename_i hfl2
      subst e2
      simp only [Bool.and_eq_true] at hfl2
      have hlok := hC.ok.ren hl'
      have hflat : ∀ k ∈ l', ∀ e ∈ k.es, ∀ v ∈ e, v.flat = true := by
        intro k hk e he v hv
        obtain ⟨i, hi⟩ := List.mem_iff_getElem?.1 hk
        obtain ⟨k0, hk0, hren⟩ := (renH_get hl').2.2 i k hi
        have h0 := List.all_eq_true.1 hfl2.2 k0 (List.mem_of_getElem? hk0)
        simp only [Bool.and_eq_true, Bool.not_eq_true'] at h0
        have : k = k0 := by
          unfold Blk.ren at hren
          rw [if_neg (by simp [h0.1])] at hren
          exact (Option.some.inj hren).symm
        subst this
        exact hlok k hk |>.flat h0.2 e he v hv
      have hnew : ∀ b L r, ρ' b L = some r → w.heap.size ≤ r.blk := fun b L r hr => by
        rcases hE.new b L r hr with ⟨L0, r0, h0, _⟩ | h0
        · simp [Rho.none] at h0
        · exact h0
      have hT := Sim.thaw hs (fun g hg => hE.keep g hg (fun b L r hr => by simp [Rho.none] at hr)) (hE1.fle.trans hE.fle) hfl hS2 hflat hnew
      refine ⟨hok.append hlok, _, F, ⟨hE2.os, hE2.tape, hE2.output, hE2.size, hE2.keep, hE2.rho, hE2.new, .refl _, fun _ _ _ h => .inl h⟩, hT, relT_nt3 hR3 (nt3_ren hv' hfl2.1), fun _ _ => hloc⟩
    · subst e2
      refine ⟨by rw [Eff.frz_heap]; exact (freezeH_ok hok).append (hC.ok.ren hl'), _, F', hE1.trans hE2, by rw [Eff.frz_heap]; exact hS2, hR3, fun _ _ => hloc⟩
  · simp only [Option.bind_eq_some_iff, Option.map_eq_some_iff] at h
    obtain ⟨as, has, Hs, hHs, ⟨r, Hs', d⟩, hc, v', hv', Hn, hHn, he⟩ := h
    injection he with e1 e2
    subst e1
    generalize hids : reach H 50 [] (refsL args) = ids at *
    have hnd : ids.Nodup := by rw [← hids]; exact reach_nodup H 50 [] _ List.nodup_nil
    have hlt := pickH_lt hHs
    have hpl := (pickH_get hHs).1
    have hS0 := Sim.pick hs hok hnd hHs
    have hC := hcall f as Hs r Hs' d hc (pickH_ok hHs hok) (by rw [hpl]; exact pickH_cl hHs hok)
    refine ⟨hC.fn, ?_⟩
    refine (hC.run _ F w us hS0 (ha.ren place_rho has)).mono fun en w' hh => ?_
    obtain ⟨hC, u, ρ', F', rfl, hE, hS, hR, hD⟩ := hh
    refine ⟨u, rfl, ?_⟩
    have hle := hC.len
    rw [hpl] at hle
    obtain ⟨n1, n2, n3⟩ := renH_get hHn
    have n1 : Hn.length = Hs'.length := n1
    have hg : ∀ b b', place ids b = some b' → backG ids H.length b' = some b := by
      intro b b' hb
      have := place_some hb
      simp only [backG]
      rw [if_pos (List.getElem?_eq_some_iff.1 this).1]
      simp [List.getD, this]
    -- the heap that is left
    have fin : ∀ (H' : Heap) (eff : Eff), eff.heap H = H' → ((∃ l, eff = .new l) → d = false) → H'.length = H.length + (Hs'.length - ids.length) → (∀ (i b : Nat), ids[i]? = some b → ∃ k k', Hs'[i]? = some k ∧ H'[b]? = some k' ∧ k.ren (backG ids H.length) = some k') →
        (∀ (b : Nat) (k : Blk), b < H.length → place ids b = none → H'[b]? = some k → H[b]? = some k) → (∀ (j : Nat) (k' : Blk), H'[H.length + j]? = some k' → ∃ k, Hs'[ids.length + j]? = some k ∧ k.ren (backG ids H.length) = some k') → HOk H' → Step ρ F H w v' eff u w' := by
      intro H' eff heff hed hl' h1 h2 h3 hok'
      obtain ⟨hE2, hS2, hR2⟩ := Sim.join hs hok hnd hlt (fun i L => rfl) hE hS hC.ok hle hl' h1 h2 h3
      refine ⟨by rw [heff]; exact hok', _, F', hE2, by rw [heff]; exact hS2, hR2 r v' u hR hv', fun l hl b L r hr hb => ?_⟩
      unfold joinR at hr
      split at hr
      · rename_i i hi
        have hg := place_some hi
        have hil := (List.getElem?_eq_some_iff.1 hg).1
        have h5 := hD (hed ⟨l, hl⟩) i L r hr (by rw [hpl]; exact hil)
        simp only [if_pos hil] at h5
        simpa [List.getD, hg] using h5
      · rwa [if_neg (by omega)] at hr
    have hdrop : ∀ (j : Nat) (k' : Blk), (Hn.drop ids.length)[j]? = some k' → ∃ k, Hs'[ids.length + j]? = some k ∧ k.ren (backG ids H.length) = some k' := by
      intro j k' hk
      rw [List.getElem?_drop] at hk
      exact n3 _ k' hk
    split at e2
    · subst e2
      refine fin (putBack Hn 0 ids H ++ Hn.drop ids.length) _ rfl (by rintro ⟨l, hl⟩; cases hl) (by simp [putBack_len, n1]) (fun i b hb => ?_) (fun b k hb hnp hk => ?_) (fun j k' hk => ?_) ?_
      · have hi := (List.getElem?_eq_some_iff.1 hb).1
        have hbl := hlt b (List.mem_of_getElem? hb)
        obtain ⟨k', hk', hren⟩ := n2 i (Hs'[i]'(by omega)) (List.getElem?_eq_getElem _)
        refine ⟨_, k', List.getElem?_eq_getElem (by omega), ?_, hren⟩
        rw [List.getElem?_append_left (by rw [putBack_len]; exact hbl), putBack_get Hn ids 0 H b hnd hlt, place_of hnd hb]
        simp [List.getD, hk']
      · rw [List.getElem?_append_left (by rw [putBack_len]; exact hb), putBack_get Hn ids 0 H b hnd hlt, hnp] at hk
        exact hk
      · rw [List.getElem?_append_right (by rw [putBack_len]; omega), putBack_len, Nat.add_sub_cancel_left] at hk
        exact hdrop j k' hk
      · refine HOk.append (fun k hk => ?_) ((hC.ok.ren hHn).drop _)
        obtain ⟨b, hb⟩ := List.mem_iff_getElem?.1 hk
        rw [putBack_get Hn ids 0 H b hnd hlt] at hb
        split at hb
        · rename_i j hj
          have hj' := (List.getElem?_eq_some_iff.1 (place_some hj)).1
          have hjn : j < Hn.length := by omega
          injection hb with hb
          rw [← hb]
          simp only [Nat.zero_add, List.getD, List.getElem?_eq_getElem hjn, Option.getD_some]
          exact (hC.ok.ren hHn) _ (List.getElem_mem hjn)
        · exact hok.get hb
    · rename_i hd
      subst e2
      have hd : d = false := by simpa using hd
      have hsame := hC.same hd
      rw [hpl] at hsame
      refine fin (H ++ Hn.drop ids.length) _ rfl (fun _ => hd) (by simp [n1]) (fun i b hb => ?_) (fun b k hb hnp hk => ?_) (fun j k' hk => ?_) ?_
      · have hi := (List.getElem?_eq_some_iff.1 hb).1
        have hbl := hlt b (List.mem_of_getElem? hb)
        have hki : Hs'[i]? = Hs[i]? := by
          rw [← hsame, List.getElem?_take, if_pos hi]
        have hil : i < Hs.length := by rw [hpl]; exact hi
        obtain ⟨b0, k0, g1, g2, g3⟩ := (pickH_get hHs).2 i Hs[i] (List.getElem?_eq_getElem hil)
        rw [hb] at g1
        injection g1 with g1
        subst g1
        exact ⟨Hs[i], k0, by rw [hki]; exact List.getElem?_eq_getElem hil, by rw [List.getElem?_append_left hbl]; exact g2, Blk.ren_inv hg g3⟩
      · rwa [List.getElem?_append_left hb] at hk
      · rw [List.getElem?_append_right (by omega), Nat.add_sub_cancel_left] at hk
        exact hdrop j k' hk
      · exact hok.append ((hC.ok.ren hHn).drop _)
end
end Go.AM
