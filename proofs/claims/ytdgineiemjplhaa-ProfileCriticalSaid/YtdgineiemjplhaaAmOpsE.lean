/- One operation of the executor against the model's: slicing, new slices, appends. -/
import Derived.Test.YtdgineiemjplhaaAmOpsD
set_option linter.unusedVariables false
set_option linter.unusedSimpArgs false
namespace Go.AM
open Go Go.RowKit
section
variable {P : Program} {ρ : Rho} {F : Fz} {H : Heap} {w : World} {fr : List V} {a : Act}

theorem bounds_run {isS : Bool} {len cap : Nat} {lo hi : Option Value} {l h : Int} (hl : (lo = none ∧ l = 0) ∨ ∃ k, lo = some (.int k l)) (hh : (hi = none ∧ h = len) ∨ ∃ k, hi = some (.int k h)) (h0 : 0 ≤ l) (h1 : l ≤ h) (h2 : h ≤ cap) :
    (Instr.sliceBounds isS len cap lo hi none).run P w = .ok (l.toNat, h.toNat, cap) w := by
  have e : ∀ (k : IntKind) (i : Int) (y : Nat) (c : BoundsCode), 0 ≤ i → i ≤ y → (Instr.sliceBound (.int k i) y c).run P w = .ok i.toNat w := fun k i y c => run_sliceBound w k i y c
  have eh : (h.toNat : Int) = h := Int.toNat_of_nonneg (by omega)
  have hl' : ∀ c, l ≤ (h.toNat : Int) → ∀ k, (Instr.sliceBound (.int k l) h.toNat c).run P w = .ok l.toNat w := fun c hc k => e k l _ c h0 hc
  rcases hl with ⟨rfl, rfl⟩ | ⟨k, rfl⟩ <;> rcases hh with ⟨rfl, rfl⟩ | ⟨k', rfl⟩
  · simp [Instr.sliceBounds]
  · simp [Instr.sliceBounds, e k' h cap _ (by omega) h2]
  · have := fun c => hl' c (by omega) k
    simp only [Int.toNat_natCast] at this
    simp [Instr.sliceBounds, this]
  · simp [Instr.sliceBounds, e k' h cap _ (by omega) h2, fun c => hl' c (by omega) k]
/-- bounds: none, or a number -/
def BdRel (ρ : Rho) (F : Fz) (x : Option V) (u : Option Value) : Prop := (x = none ∧ u = none) ∨ ∃ v y, x = some v ∧ u = some y ∧ Rel ρ F v y
theorem evOpt_rel (h : FrOk ρ F fr a.tmps) {x : Option Operand} {y : Option Opd} (hc : compOpt x = some y) : BdRel ρ F (y.map (ev fr)) (x.map a.eval) := by
  cases x with
  | none => simp [compOpt] at hc; subst hc; exact .inl ⟨rfl, rfl⟩
  | some x =>
    simp only [compOpt, Option.map_eq_some_iff] at hc
    obtain ⟨b, hb, rfl⟩ := hc
    exact .inr ⟨_, _, rfl, rfl, ev_rel h hb⟩
theorem lo_inv {x : Option V} {u : Option Value} {l : Int} (h : BdRel ρ F x u) (hl : loI x = some l) : (u = none ∧ l = 0) ∨ ∃ k, u = some (.int k l) := by
  rcases h with ⟨rfl, rfl⟩ | ⟨v, y, rfl, rfl, h⟩
  · injection hl with hl
    exact .inl ⟨rfl, hl.symm⟩
  · cases v <;> simp [loI] at hl
    subst hl
    exact .inr ⟨_, by rw [h.int_inv]⟩
theorem hi_inv {x : Option V} {u : Option Value} {h : Int} {n : Nat} (hr : BdRel ρ F x u) (hl : hiI n x = some h) : (u = none ∧ h = n) ∨ ∃ k, u = some (.int k h) := by
  rcases hr with ⟨rfl, rfl⟩ | ⟨v, y, rfl, rfl, hr⟩
  · injection hl with hl
    exact .inl ⟨rfl, hl.symm⟩
  · cases v <;> simp [hiI] at hl
    subst hl
    exact .inr ⟨_, by rw [hr.int_inv]⟩
theorem sliceS_run {t : TypeId} {x v : V} {ux : Value} {lo hi : Option V} {ulo uhi : Option Value} (ht : P.underlying t = some .string)
    (hx : Rel ρ F x ux) (hlo : BdRel ρ F lo ulo) (hhi : BdRel ρ F hi uhi) (h : sliceS x lo hi = some v) : ∃ u, (Instr.sliceAt t ux ulo uhi none).run P w = .ok u w ∧ Rel ρ F v u := by
  cases x with
  | str s =>
    simp only [sliceS, Option.bind_eq_some_iff] at h
    obtain ⟨l, hl, hh, hhh, h⟩ := h
    split at h
    · rename_i hc
      simp only [Bool.and_eq_true, decide_eq_true_eq] at hc
      obtain ⟨⟨c1, c2⟩, c3⟩ := hc
      injection h with h
      subst h
      have hb := bounds_run (P := P) (w := w) (isS := false) (len := s.size) (cap := s.size) (lo_inv hlo hl) (hi_inv hhi hhh) c1 c2 c3
      rw [hx.str_inv]
      exact ⟨_, by simp [Instr.sliceAt, Instr.slice, run_underlying ht, hb], .t (.str _)⟩
    · cases h
  | _ => simp [sliceS] at h
theorem bounds_run3 {isS : Bool} {len cap : Nat} {lo : Option Value} {l h m : Int} {k km : IntKind} (hl : (lo = none ∧ l = 0) ∨ ∃ k, lo = some (.int k l)) (h0 : 0 ≤ l) (h1 : l ≤ h) (h2 : h ≤ m) (h3 : m ≤ cap) :
    (Instr.sliceBounds isS len cap lo (some (.int k h)) (some (.int km m))).run P w = .ok (l.toNat, h.toNat, m.toNat) w := by
  have e : ∀ (k : IntKind) (i : Int) (y : Nat) (c : BoundsCode), 0 ≤ i → i ≤ y → (Instr.sliceBound (.int k i) y c).run P w = .ok i.toNat w := fun k i y c => run_sliceBound w k i y c
  have em := fun c => e km m cap c (by omega) h3
  have eh := fun c => e k h m.toNat c (by omega) (by omega)
  rcases hl with ⟨rfl, rfl⟩ | ⟨k', rfl⟩
  · simp [Instr.sliceBounds, em, eh]
  · have el := fun c => e k' l h.toNat c h0 (by omega)
    simp [Instr.sliceBounds, em, eh, el]
theorem sliceV_run {t e : TypeId} {z : Nat} {x v : V} {ux : Value} {lo hi mx : Option V} {ulo uhi umx : Option Value} (ht : P.underlying t = some (.slice e)) (hz : sizeP P e = some z)
    (hx : Rel ρ F x ux) (hlo : BdRel ρ F lo ulo) (hhi : BdRel ρ F hi uhi) (hmx : BdRel ρ F mx umx) (h : sliceV z x lo hi mx = some v) : ∃ u, (Instr.sliceAt t ux ulo uhi umx).run P w = .ok u w ∧ Rel ρ F v u := by
  have run : ∀ {A : Option Addr} {n cap : Nat} {l h : Int}, loI lo = some l → hiI n hi = some h → 0 ≤ l → l ≤ h → h ≤ n → n ≤ cap → mxOk hi.isSome h n mx = true →
      ∃ c, h.toNat ≤ c ∧ c ≤ cap ∧ (Instr.sliceAt t (.slice A n cap) ulo uhi umx).run P w = .ok (.slice (if c = l.toNat then A else A.map (·.add (l.toNat * z))) (h.toNat - l.toNat) (c - l.toNat)) w := by
    intro A n cap l h hl hh c1 c2 c3 c4 hm
    rcases hmx with ⟨rfl, rfl⟩ | ⟨m, y, rfl, rfl, hm'⟩
    · have hb := bounds_run (P := P) (w := w) (isS := true) (len := n) (cap := cap) (lo_inv hlo hl) (hi_inv hhi hh) c1 c2 (by omega)
      exact ⟨cap, by omega, Nat.le_refl _, by simp [Instr.sliceAt, Instr.slice, run_underlying ht, hb, sizeOf_run hz]⟩
    · cases m <;> simp only [mxOk] at hm <;> try (cases hm; done)
      rename_i km m
      simp only [Bool.and_eq_true, decide_eq_true_eq] at hm
      obtain ⟨⟨m1, m2⟩, m3⟩ := hm
      rw [hm'.int_inv]
      rcases hhi with ⟨rfl, rfl⟩ | ⟨vh, yh, rfl, rfl, hr⟩
      · cases m1
      · cases vh <;> simp [hiI] at hh
        subst hh
        rw [hr.int_inv]
        have hb := bounds_run3 (P := P) (w := w) (isS := true) (len := n) (cap := cap) (k := by assumption) (km := km) (lo_inv hlo hl) c1 c2 m2 (by omega)
        exact ⟨m.toNat, by omega, by omega, by simp [Instr.sliceAt, Instr.slice, run_underlying ht, hb, sizeOf_run hz]⟩
  cases x with
  | nils =>
    simp only [sliceV, Option.bind_eq_some_iff] at h
    obtain ⟨l, hl, hh, hhh, h⟩ := h
    split at h
    · rename_i hc
      simp only [Bool.and_eq_true, decide_eq_true_eq] at hc
      obtain ⟨⟨rfl, rfl⟩, c3⟩ := hc
      injection h with h
      subst h
      cases hx with
      | t hx =>
      cases hx
      obtain ⟨c, e1, e2, e3⟩ := run (A := none) (n := 0) (cap := 0) hl hhh (Int.le_refl _) (Int.le_refl _) (by simp) (Nat.le_refl _) c3
      obtain rfl : c = 0 := by omega
      exact ⟨_, e3, by simpa using (.t .nils : Rel ρ F .nils (.slice none 0 0))⟩
    · cases h
  | sl z' b L o n =>
    simp only [sliceV, Option.bind_eq_some_iff] at h
    obtain ⟨l, hl, hh, hhh, h⟩ := h
    split at h
    · rename_i hc
      simp only [Bool.and_eq_true, decide_eq_true_eq] at hc
      obtain ⟨⟨⟨⟨rfl, c1⟩, c2⟩, c3⟩, c4⟩ := hc
      injection h with h
      obtain ⟨r, cap, hr, hzz, h0, h1, h2, rfl⟩ := hx.sl_inv
      obtain ⟨c, e1, e2, e3⟩ := run (A := some ⟨r.blk, o * r.z, .none⟩) (cap := cap) hl hhh c1 c2 c3 h0 c4
      refine ⟨_, e3, ?_⟩
      split at h
      · rename_i hc2
        simp only [Bool.and_eq_true, decide_eq_true_eq] at hc2
        subst h
        have e0 : hh.toNat - l.toNat = 0 := by omega
        rw [e0]
        exact .t (RelT.tsl z' [] _ _ 0 0 (fun _ _ => default) (by simp) (by omega) ⟨by split <;> rfl, by simp⟩ (by simp) (by simp) (by simp))
      · rename_i hc2
        simp only [Bool.and_eq_true, decide_eq_true_eq, not_and, Decidable.not_not, bne_iff_ne, ne_eq] at hc2
        subst h hzz
        have key := Rel.sl (F := F) b L (o + l.toNat) (hh.toNat - l.toNat) (c - l.toNat) r hr (by omega) (by omega) h2
        by_cases e : c = l.toNat
        · have el : l = hh := by omega
          have el0 : l = 0 := hc2 el
          subst el0
          rw [if_pos e]
          simpa using key
        · rw [if_neg e]
          simp only [Option.map_some, addr_add, ← Nat.add_mul]
          exact key
    · cases h
  | tsl z' es =>
    simp only [sliceV, Option.bind_eq_some_iff] at h
    obtain ⟨l, hl, hh, hhh, h⟩ := h
    split at h
    · rename_i hc
      simp only [Bool.and_eq_true, decide_eq_true_eq] at hc
      obtain ⟨⟨⟨⟨rfl, c1⟩, c2⟩, c3⟩, c4⟩ := hc
      injection h with h
      subst h
      cases hx.tsl_inv with
      | tsl _ _ A cap0 g o us h1 h2 h3 h4 h5 h6 =>
        obtain ⟨cap, e1, e2, e3⟩ := run (A := A) (cap := cap0) hl hhh c1 c2 c3 h1 c4
        refine ⟨_, e3, ?_⟩
        have hlen : ((es.drop l.toNat).take (hh.toNat - l.toNat)).length = hh.toNat - l.toNat := by simp; omega
        have hel : ∀ (i : Nat) (e : List V), ((es.drop l.toNat).take (hh.toNat - l.toNat))[i]? = some e → es[l.toNat + i]? = some e := by
          intro i e he
          rw [List.getElem?_take] at he
          split at he
          · rwa [List.getElem?_drop] at he
          · cases he
        have key := RelT.tsl (F := F) z' ((es.drop l.toNat).take (hh.toNat - l.toNat)) (if cap = l.toNat then A else A.map (·.add (l.toNat * z'))) (cap - l.toNat) g (o + l.toNat * z') (fun i j => us (l.toNat + i) j)
          (by rw [hlen]; omega) (by omega) ⟨by split <;> simp [h3.1], fun hne => ?_⟩ (fun i e j v he hv => ?_) (fun i e j v he hv => h5 _ e j v (hel i e he) hv) (fun e he => h6 e (List.mem_of_mem_drop (List.mem_of_mem_take he)))
        · rw [hlen] at key
          exact .t key
        · have hpos : 0 < hh.toNat - l.toNat := by
            rw [← hlen]
            exact List.length_pos_iff.2 hne
          have hne' : es ≠ [] := by rintro rfl; simp at hlen; omega
          rw [if_neg (by omega), h3.2 hne']
          simp [addr_add]
        · have := h4 _ e j v (hel i e he) hv
          rw [Nat.add_mul] at this
          rw [← this]
          congr 1
          omega
    · cases h
  | _ => simp [sliceV] at h
end
end Go.AM
