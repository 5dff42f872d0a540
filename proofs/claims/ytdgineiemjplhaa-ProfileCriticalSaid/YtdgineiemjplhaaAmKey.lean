/- An oracle: slices.Sorted over maps.Keys of a map with int keys, given what every run of it returns. -/
import Derived.Test.YtdgineiemjplhaaAmFront
import Derived.Lib.SlKeysI
import Derived.Laws.AppendOwn
import Derived.Maps.Own
set_option linter.unusedVariables false
namespace Go.AM
open Go Go.Maps Go.WideElems Go.RowKit

/-- the keys of a map's rows -/
def keysI : List (List V) → Option (List Int)
  | [] => some []
  | (.int .i64 k :: _) :: es => (keysI es).map (k :: ·)
  | _ :: _ => none
def leZ (x y : Int) : Bool := decide (x ≤ y)
/-- the result -/
def sortedV (ks : List Int) : V := if ks = [] then .nils else .tsl 1 ((ks.mergeSort leZ).map fun k => [.int .i64 k])
def oraRows (es : List (List V)) : Option (V × Bool) :=
  (keysI es).bind fun ks => if ks.Nodup ∧ ks.length ≤ 1000 ∧ (ks.all fun k => (Lit.int .i64 k).wf) = true then some (sortedV ks, false) else none
def oraKey (f g : FuncId) : CallT := fun f' args Hs => if f' = f then match args with
    | [.fn g' [.ptr i 1 0 0]] => if g' = g then (Hs[i]?).bind fun h => match h.box, h.es with
      | true, [[.mp j]] => (Hs[j]?).bind fun m => match m.es with
        | _ :: rows => (oraRows rows).map fun r => (r.1, Hs, r.2)
        | _ => none
      | _, _ => none
      else none
    | _ => none
  else none

section
variable {P : Program} {ρ : Rho} {F : Fz} {H : Heap} {w : World}
theorem keysI_sound : ∀ {es : List (List V)} {ks : List Int} {ens : List MapEntry} {ag : Bool}, keysI es = some ks → ens.length = es.length → (∀ (i : Nat) (row : List V) (x : MapEntry), es[i]? = some row → ens[i]? = some x → MRow ρ F ag row x) → ens.map (·.key) = ks.map encZ
  | [], ks, ens, ag, h, hl, hr => by
    simp [keysI] at h
    subst h
    have : ens = [] := List.length_eq_zero_iff.1 hl
    rw [this]; rfl
  | row :: es, ks, ens, ag, h, hl, hr => by
    cases ens with
    | nil => simp at hl
    | cons x ens =>
      obtain ⟨k, vs, rfl, hk, -⟩ := hr 0 row x rfl rfl
      unfold keysI at h
      split at h
      · cases ‹_ :: _ = []›
      · rename_i k' t es' he
        injection he with h1 h2
        injection h1 with h1 h3
        subst h1 h2 h3
        simp only [Option.map_eq_some_iff] at h
        obtain ⟨ks', h4, rfl⟩ := h
        rw [List.map_cons, List.map_cons, keysI_sound h4 (by simpa using hl) (fun i row x h5 h6 => hr (i + 1) row x (by simpa using h5) (by simpa using h6)), hk.int_inv]
      · cases h
theorem foldr_insert_perm {T : Type} : ∀ l : List (Lit × DataW T), (l.foldr DataW.insert []).Perm l := by
  have ins : ∀ (x : Lit × DataW T) (l : List (Lit × DataW T)), (DataW.insert x l).Perm (x :: l) := by
    intro x l
    induction l with
    | nil => exact .refl _
    | cons y l ih =>
      unfold DataW.insert
      split
      · exact .refl _
      · exact (ih.cons y).trans (.swap x y l)
  intro l
  induction l with
  | nil => exact .refl _
  | cons x l ih => exact (ins x _).trans (ih.cons x)
/-- how the values are read: not at all -/
def blindR (_ : Value) : Option (DataW Unit × List MemPlace) := some (.nil, [])
theorem ownsMap_of {kt : TypeId} (hkt : P.underlying kt = some (.int .i64)) {b : Nat} {ens : Array MapEntry} {clock : Nat} {ks : List Int} (hb : w.heap[b]? = some (.map ens clock)) (hn : EnsOk ens clock ks.length) (hk : ens.toList.map (·.key) = ks.map encZ)
    (hnd : ks.Nodup) (hl : ks.length ≤ maxLen) (hwf : ∀ k ∈ ks, (Lit.int .i64 k).wf = true) : ∃ D, w.ownsMap P kt blindR b ens.size D ∧ (intKeys D).Perm ks ∧ Maps.size D = ks.length := by
  have hrd : ∀ x ∈ ens.toList, ∃ k, x.key = encZ k ∧ rd P kt blindR x = some (.int .i64 k, .nil) := by
    intro x hx
    have : x.key ∈ ens.toList.map (·.key) := List.mem_map.2 ⟨x, hx, rfl⟩
    rw [hk] at this
    obtain ⟨k, hk1, hk2⟩ := List.mem_map.1 this
    refine ⟨k, hk2.symm, ?_⟩
    have hky : keyOf P kt x.key = some (.int .i64 k) := by
      rw [← hk2]
      simp [keyOf, hkt, mapKey, hwf k hk1]
    simp [rd, hky, blindR]
  have hrg : (ens.toList.map (rg P kt blindR)).map (fun p => intOf p.1) = ks := by
    have e1 : (ens.toList.map (rg P kt blindR)).map (fun p => encZ (intOf p.1)) = ens.toList.map (·.key) := by
      rw [List.map_map]
      refine List.map_congr_left fun x hx => ?_
      obtain ⟨k, h1, h2⟩ := hrd x hx
      simp [rg, h2, h1, intOf]
    have e2 : ((ens.toList.map (rg P kt blindR)).map (fun p => intOf p.1)).map encZ = ks.map encZ := by rw [List.map_map, ← hk, ← e1]; rfl
    exact (List.map_inj_right fun x y h => encZ_inj h).1 e2
  refine ⟨_, ⟨ens, clock, hb, ⟨by rw [hn.size]; exact hl, ⟨hn.past, hn.once, ?_⟩, fun x hx => ?_⟩, Nat.le_refl _, rfl⟩, ?_, ?_⟩
  · rw [hk]
    refine List.pairwise_map.2 (hnd.imp fun h e => h (encZ_inj e))
  · obtain ⟨k, _, h2⟩ := hrd x hx
    exact ⟨_, h2⟩
  · show (((ens.toList.map (rg P kt blindR)).foldr DataW.insert []).map fun p => intOf p.1).Perm ks
    refine ((foldr_insert_perm _).map _).trans ?_
    rw [hrg]
  · show ((ens.toList.map (rg P kt blindR)).foldr DataW.insert []).length = _
    rw [(foldr_insert_perm _).length_eq, List.length_map, ← hn.size]
    simp
/-- the contract that the oracle leans on -/
def KeyCalls (P : Program) (f g : FuncId) (kt it : TypeId) : Prop := ∀ (w : World) (Bm b nn : Nat) (D : DataW Unit), Bm < w.heap.size → w.cell? ⟨Bm, 0, none⟩ = some (.map (some b)) → w.ownsMap P kt blindR b nn D → Maps.size D ≤ 1000 →
  Calls P f #[.func (.func g) #[] #[.pointer (some ⟨Bm, 0, none⟩)]] w fun e w' => ∃ (v : Value) (ss : List Int), e = .returned v ∧ ss.Perm (intKeys D) ∧
    w'.ownsRow w.heap.size it 1 v ss.length ((ss.mergeSort (fun x y => decide (x ≤ y))).map encZ) ∧ (v = .slice none 0 0 ↔ ss = []) ∧ Below w.heap.size w w'
theorem maxLen_big : 1000 ≤ maxLen := by decide
theorem oraKey_ok {f g : FuncId} {kt it : TypeId} (hkt : P.underlying kt = some (.int .i64)) (hfn : ∃ fn, P.funcs[f]? = some fn ∧ (fn.name == "runtime.NumGoroutine") = false ∧ fn.body.isSome = true) (hC : KeyCalls P f g kt it) : CallOk P (oraKey f g) := by
  intro f' args Hs v Hs' d hx hok hcl
  unfold oraKey at hx
  split at hx
  · rename_i e
    subst e
    split at hx
    · rename_i _ g' i
      split at hx
      · rename_i e
        subst e
        simp only [Option.bind_eq_some_iff] at hx
        obtain ⟨h, hi, hx⟩ := hx
        split at hx
        · rename_i _ _ j hbox hes
          simp only [Option.bind_eq_some_iff] at hx
          obtain ⟨m, hj, hx⟩ := hx
          split at hx
          · rename_i _ hd rows hms
            simp only [Option.map_eq_some_iff, oraRows, Option.bind_eq_some_iff] at hx
            obtain ⟨⟨v', d'⟩, ⟨ks, hks, hx⟩, hx2⟩ := hx
            split at hx
            · rename_i hcc
              obtain ⟨hnd, hlen, hwf⟩ := hcc
              simp only [Option.some.injEq, Prod.mk.injEq] at hx hx2
              obtain ⟨rfl, rfl⟩ := hx
              obtain ⟨rfl, rfl, rfl⟩ := hx2
              refine ⟨hfn, fun ρ F w us hs ha => ?_⟩
              obtain ⟨u0, us, rfl⟩ : ∃ u us', us = u :: us' := by
                cases us with
                | nil => have := ha.1; simp at this
                | cons u us => exact ⟨u, us, rfl⟩
              obtain rfl : us = [] := by have := ha.1; simp at this; exact this
              obtain ⟨cs, rfl, hc⟩ := (ha.head).fn_inv
              obtain ⟨u1, cs, rfl⟩ : ∃ u us', cs = u :: us' := by
                cases cs with
                | nil => have := hc.1; simp at this
                | cons u us => exact ⟨u, us, rfl⟩
              obtain rfl : cs = [] := by have := hc.1; simp at this; exact this
              obtain ⟨r, hr, rfl⟩ := (hc.head).ptr_inv
              have hr1 : ρ i h.es.length = some r := by rw [hes]; exact hr
              obtain ⟨cur, c1, c2, c3, c4, c5⟩ := hs.blk i h r hi hr1
              obtain ⟨u, hu, hrel⟩ := c5 0 [.mp j] 0 (.mp j) (by rw [hes]; rfl) rfl
              obtain ⟨q, rfl, hq, hqz⟩ := hrel.map_inv
              obtain ⟨⟨_, ag, e2, es2, ens, clock, m1, m2, m3, m4⟩, -⟩ := hs.mp j m q hj hq hqz
              rw [hms] at m1
              injection m1 with _ m1
              subst m1
              have hlt := (hs.img i 1 r hr).2
              have hkeys := keysI_sound (ens := ens.toList) hks (by simpa using m3.size) (fun i row x h1 h2 => m4 i row x h1 (by simpa using h2))
              have hkl : ks.length = rows.length := by
                have := congrArg List.length hkeys
                simp at this
                rw [← this, m3.size]
              obtain ⟨D, d1, d2, d3⟩ := ownsMap_of (w := w) hkt m2 (by rw [hkl]; exact m3) hkeys hnd (Nat.le_trans hlen maxLen_big) (fun k hk => by have := List.all_eq_true.1 hwf k hk; exact this)
              have hcell : w.cell? ⟨r.blk, 0, none⟩ = some (.map (some q.blk)) := by
                simp only [World.cell?, c1]
                simpa using hu
              have := hC w r.blk q.blk _ D hlt hcell d1 (by rw [d3]; exact hlen)
              simp only [Nat.zero_mul, Nat.zero_add]
              refine this.mono ?_
              rintro ev w' ⟨v, ss, rfl, hp, hrow, hnil, hB⟩
              refine ⟨⟨hok, Nat.le_refl _, fun _ => by simp⟩, v, ?_⟩
              have hss : ss.mergeSort (fun x y => decide (x ≤ y)) = ks.mergeSort leZ := mergeSort_of_perm_i (hp.trans d2)
              have hmv := hs.move (w' := w') hB.size (fun g hg => hB.block g hg)
              have hE0 : Ext ρ F w ρ F w' := ⟨hB.os, hB.tape, hB.output, hB.size, fun g hg _ => hB.block g hg, .refl _, fun b L r h => .inl ⟨L, r, h, rfl⟩, .refl _, fun _ _ _ h => .inl h⟩
              by_cases hn : ks = []
              · subst hn
                have hs0 : ss = [] := by
                  have := (hp.trans d2).length_eq
                  exact List.length_eq_zero_iff.1 this
                have hv := hnil.2 hs0
                subst hv
                refine ⟨ρ, F, rfl, hE0, hmv, .t ?_, fun _ b L r h _ => h⟩
                simp only [sortedV, if_true]
                exact .nils
              · have hsl : ss.length = ks.length := (hp.trans d2).length_eq
                have hs1 : ss ≠ [] := fun h => hn (List.length_eq_zero_iff.1 (by rw [← hsl, h]; rfl))
                obtain ⟨h1, h2⟩ := hrow
                rcases h2 with ⟨rfl, h2⟩ | ⟨g, cap, cur2, rfl, g1, g2, g3, g4, g5, g6⟩
                · exact absurd (List.length_eq_zero_iff.1 h2) hs1
                · rw [hss] at g6
                  have hnew : ∀ o x, F g o = some x → False := fun o x hx => by
                    have h3 := hs.frz g o x hx
                    unfold World.cell? at h3
                    rw [Array.getElem?_eq_none (by omega)] at h3
                    cases h3
                  refine ⟨ρ, fun g' o => if g' = g then (if o < ss.length then cur2[o]? else Option.none) else F g' o, rfl, ⟨hB.os, hB.tape, hB.output, hB.size, fun g hg _ => hB.block g hg, .refl _, fun b L r h => .inl ⟨L, r, h, rfl⟩, fun g' o x hx => ?_, fun g' o x hx => ?_⟩, ?_, .t ?_, fun _ b L r h _ => h⟩
                  · show (if g' = g then _ else _) = _
                    rw [if_neg (fun e : g' = g => hnew o x (by rw [← e]; exact hx))]
                    exact hx
                  · by_cases e : g' = g
                    · exact .inr (.inl (by rw [e]; exact g1))
                    · rw [if_neg e] at hx; exact .inl hx
                  · have hF : Fle F (fun g' o => if g' = g then (if o < ss.length then cur2[o]? else Option.none) else F g' o) := fun g' o x hx => by
                      show (if g' = g then _ else _) = _
                      rw [if_neg (fun e : g' = g => hnew o x (by rw [← e]; exact hx))]
                      exact hx
                    refine ⟨hmv.img, fun b k r hb hr => ?_, fun b k r o x hb hr hx => ?_, hmv.len, hmv.inj, fun g' o x hx => ?_, fun b k r hb hr hz => ?_⟩
                    · obtain ⟨c, a1, a2, a3, a4, a5⟩ := hmv.blk b k r hb hr
                      exact ⟨c, a1, a2, a3, a4, RelB.mono (.refl _) hF a5⟩
                    · have : r.blk ≠ g := fun e => by have := (hs.img b _ r hr).2; omega
                      rw [if_neg this] at hx
                      exact hmv.fz b k r o x hb hr hx
                    · by_cases e : g' = g
                      · subst e
                        rw [if_pos rfl] at hx
                        split at hx
                        · simp only [World.cell?, g2]
                          simpa using hx
                        · cases hx
                      · rw [if_neg e] at hx
                        exact hmv.frz g' o x hx
                    · obtain ⟨a1, a2⟩ := hmv.mp b k r hb hr hz
                      exact ⟨a1.mono (.refl _) hF rfl, a2⟩
                  · simp only [sortedV, if_neg hn]
                    have hlen2 : ss.length = ((ks.mergeSort leZ).map fun k => [V.int .i64 k]).length := by simp [hsl]
                    have hgt : ∀ (i : Nat) (e : List V) (j : Nat) (v : V), ((ks.mergeSort leZ).map fun k => [V.int .i64 k])[i]? = some e → e[j]? = some v → ∃ k, (ks.mergeSort leZ)[i]? = some k ∧ v = .int .i64 k ∧ j = 0 ∧ i < ss.length ∧ cur2[i]? = some (encZ k) := by
                      intro i e j v h3 h4
                      rw [List.getElem?_map, Option.map_eq_some_iff] at h3
                      obtain ⟨k, h3, rfl⟩ := h3
                      have h5 : j = 0 ∧ v = .int .i64 k := by
                        cases j with
                        | zero => simp at h4; exact ⟨rfl, h4.symm⟩
                        | succ j => simp at h4
                      have h6 := (List.getElem?_eq_some_iff.1 h3).1
                      have h7 : i < ss.length := by rw [hsl]; simpa using h6
                      refine ⟨k, h3, h5.2, h5.1, h7, ?_⟩
                      have h8 := congrArg (·[i]?) g6
                      simp only [List.getElem?_take, Nat.mul_one, if_pos h7, List.getElem?_map, h3, Option.map_some] at h8
                      simpa using h8
                    rw [hlen2] at g3 ⊢
                    refine .tsl 1 _ _ cap g 0 (fun i _ => (cur2[i]?).getD (.bool false)) g3 g4 ⟨rfl, fun _ => rfl⟩ (fun i e j v h3 h4 => ?_) (fun i e j v h3 h4 => ?_) (fun e he => ?_)
                    · obtain ⟨k, _, _, rfl, h5, h6⟩ := hgt i e j v h3 h4
                      have h7 : i < ks.length := by omega
                      simp [h7, h6]
                    · obtain ⟨k, _, rfl, rfl, h5, h6⟩ := hgt i e j v h3 h4
                      simp only [h6, Option.getD_some, encZ]
                      exact .int .i64 k
                    · obtain ⟨k, _, rfl⟩ := List.mem_map.1 he
                      rfl
            · cases hx
          · cases hx
        · cases hx
      · cases hx
    · cases hx
  · cases hx
end
end Go.AM
