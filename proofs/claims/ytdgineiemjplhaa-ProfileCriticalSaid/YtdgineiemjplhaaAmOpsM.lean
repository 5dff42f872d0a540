/- Maps: making one, looking up, writing. -/
import Derived.Test.YtdgineiemjplhaaAmOpsG
import Derived.MapKept
set_option linter.unusedVariables false
namespace Go.AM
open Go Go.MapKept
section
variable {P : Program} {ρ : Rho} {F : Fz} {H : Heap} {w : World} {fr : List V} {a : Act}
/-- a new map -/
theorem Sim.allocMap (h : Sim ρ F H w) {w' : World} {k : Blk} {ag : Bool} {e : List V} (ho : w'.os = w.os) (ht : w'.tape = w.tape) (hp : w'.output = w.output)
    (hw : w'.heap = w.heap.push (.map #[] 0)) (hes : k.es = [.bool ag :: e]) (hbox : k.box = false) :
    Ext ρ F w (ρ.add H.length 0 ⟨w.heap.size, 0, 0, 0⟩) F w' ∧ Sim (ρ.add H.length 0 ⟨w.heap.size, 0, 0, 0⟩) F (H ++ [k]) w' := by
  have hs : w'.heap.size = w.heap.size + 1 := by rw [hw]; simp
  have hk : ∀ g, g < w.heap.size → w'.heap[g]? = w.heap[g]? := fun g hg => by rw [hw, Array.getElem?_push, if_neg (by omega)]
  have hnew : w'.heap[w.heap.size]? = some (.map #[] 0) := by rw [hw, Array.getElem?_push, if_pos rfl]
  have hno : ∀ L r, ρ H.length L = some r → False := fun L r hr => by have := (h.img _ _ _ hr).1; omega
  have hle : Rle ρ (ρ.add H.length 0 ⟨w.heap.size, 0, 0, 0⟩) := Rho.add_le fun r' hr' => (hno _ _ hr').elim
  have hm := h.move (w' := w') (by omega) hk
  have hlen : k.es.length = 1 := by rw [hes]; rfl
  refine ⟨⟨ho, ht, hp, by omega, fun g hg _ => hk g hg, hle, fun b L r hr => ?_, .refl _, fun _ _ _ h => .inl h⟩, ?_⟩
  · unfold Rho.add at hr
    split at hr
    · injection hr with hr
      subst hr
      exact .inr (Nat.le_refl _)
    · exact .inl ⟨L, r, hr, rfl⟩
  refine ⟨fun b L r hr => ?_, fun b k' r hb hr => ?_, fun b k' r o x hb hr hx => ?_, fun b k' L r hb hr => ?_, fun b1 L1 r1 b2 L2 r2 h1 h2 he => ?_, hm.frz, fun b k' r hb hr hz => ?_⟩
  · unfold Rho.add at hr
    split at hr
    · rename_i e
      injection hr with hr
      subst hr
      rw [e.1]
      simp only [List.length_append, List.length_singleton]
      omega
    · have := hm.img b L r hr
      simp only [List.length_append, List.length_singleton]
      omega
  · unfold Rho.add at hr
    split at hr
    · rename_i e
      rw [e.1, List.getElem?_append_right (Nat.le_refl _)] at hb
      simp at hb
      subst hb
      omega
    · have hlt := (h.img b _ r hr).1
      rw [List.getElem?_append_left hlt] at hb
      obtain ⟨c, h1, h2, h3, h4, h5⟩ := hm.blk b k' r hb hr
      exact ⟨c, h1, h2, h3, h4, RelB.mono hle (.refl _) h5⟩
  · unfold Rho.add at hr
    split at hr
    · rename_i e
      rw [e.1, List.getElem?_append_right (Nat.le_refl _)] at hb
      simp at hb
      subst hb
      omega
    · have hlt := (h.img b _ r hr).1
      rw [List.getElem?_append_left hlt] at hb
      exact h.fz b k' r o x hb hr hx
  · unfold Rho.add at hr
    split at hr
    · rename_i e
      omega
    · have hlt := (h.img b _ r hr).1
      rw [List.getElem?_append_left hlt] at hb
      exact h.len b k' L r hb hr
  · unfold Rho.add at h1 h2
    split at h1 <;> split at h2
    · rename_i e1 e2; exact e1.1.trans e2.1.symm
    · injection h1 with h1; subst h1
      have := (h.img _ _ _ h2).2
      simp at he; omega
    · injection h2 with h2; subst h2
      have := (h.img _ _ _ h1).2
      simp at he; omega
    · exact h.inj b1 L1 r1 b2 L2 r2 h1 h2 he
  · by_cases e' : b = H.length
    · subst e'
      unfold Rho.add at hr
      rw [if_pos ⟨rfl, rfl⟩] at hr
      injection hr with hr
      subst hr
      rw [List.getElem?_append_right (Nat.le_refl _)] at hb
      simp at hb
      subst hb
      refine ⟨⟨hbox, ag, e, [], #[], 0, hes, hnew, ⟨rfl, by simp, by simp⟩, fun i row x hi => by simp at hi⟩, fun L r' hr' => ?_⟩
      unfold Rho.add at hr'
      split at hr'
      · rename_i e; exact e.2
      · exact (hno _ _ hr').elim
    · have hr0 : ρ b 0 = some r := by
        unfold Rho.add at hr
        rwa [if_neg (fun h => e' h.1)] at hr
      have hlt := (h.img b _ r hr0).1
      rw [List.getElem?_append_left hlt] at hb
      obtain ⟨m1, m2⟩ := hm.mp b k' r hb hr0 hz
      refine ⟨m1.mono hle (.refl _) rfl, fun L r' hr' => ?_⟩
      unfold Rho.add at hr'
      rw [if_neg (fun h => e' h.1)] at hr'
      exact m2 L r' hr'
theorem mkm_sound (hok : HOk H) (hs : Sim ρ F H w) {t : TypeId} {ag : Bool} {n : Nat} :
    ∃ w', (Instr.makeMap t none).run P w = .ok (.map (some w.heap.size)) w' ∧
      Step ρ F H w (.mp H.length) (.new [{ z := n + 1, es := [List.replicate (n + 1) (.bool ag)], fz := 0, box := false, flat := true }]) (.map (some w.heap.size)) w' := by
  obtain ⟨hE, hS⟩ := hs.allocMap (w' := w.alloc (.map #[] 0)) (k := { z := n + 1, es := [List.replicate (n + 1) (.bool ag)], fz := 0, box := false, flat := true }) (ag := ag) (e := List.replicate n (.bool ag)) rfl rfl rfl rfl (by simp [List.replicate_succ]) rfl
  refine ⟨w.alloc (.map #[] 0), by simp [Instr.makeMap, Result.andThen], hok.append (HOk.one ⟨?_, ?_, fun h => (by cases h), ?_, ?_⟩), _, F, hE, hS, .mp _ _ (Rho.add_same _ _ _ _) rfl, fun _ _ => add_loc⟩
  · intro e he; simp at he; subst he; simp
  · intro e he v hv; simp at he; subst he; rw [List.eq_of_mem_replicate hv]; rfl
  · intro _ e he v hv; simp at he; subst he; rw [List.eq_of_mem_replicate hv]; rfl
  · intro _ e he v hv; simp at he; subst he; rw [List.eq_of_mem_replicate hv]; rfl
/-- the type of keys -/
def keyD : Option IntKind → TypeDesc
  | some k => .int k
  | none => .string
theorem keyIs_sound {kk : Option IntKind} {v : V} {u : Value} (h : Rel ρ F v u) (hk : keyIs kk v = true) : IsKey (keyD kk) u ∧ v.tree = true ∧ v.flat = true := by
  cases v <;> simp [keyIs] at hk
  · subst hk; rw [h.int_inv]; exact ⟨rfl, rfl, rfl⟩
  · subst hk; rw [h.str_inv]; exact ⟨trivial, rfl, rfl⟩
theorem keyEq_sound {kk : Option IntKind} {v v' : V} {u u' : Value} {b : Bool} (h : Rel ρ F v u) (h' : Rel ρ F v' u') (he : keyEq kk v v' = some b) : Instr.sameNow (keyD kk) u u' = some b ∧ (b = true → u' = u) := by
  cases v <;> cases v' <;> simp [keyEq] at he
  · obtain ⟨⟨rfl, h2⟩, he⟩ := he
    injection h2 with h2
    subst h2
    rw [h.int_inv, h'.int_inv]
    subst he
    refine ⟨?_, fun hb => ?_⟩
    · simp only [Instr.sameNow, keyD, if_true]
      congr 1
    · simp at hb
      rw [hb]
  · obtain ⟨rfl, he⟩ := he
    rw [h.str_inv, h'.str_inv]
    subst he
    rename_i x y
    refine ⟨?_, fun hb => by simp at hb; rw [hb]⟩
    simp only [Instr.sameNow, keyD]
    congr 1
    rw [Bool.eq_iff_iff, bytes_beq]
    simp
theorem findR_sound {kk : Option IntKind} {ag : Bool} {k : V} {uk : Value} (hk : Rel ρ F k uk) : ∀ (es : List (List V)) (ens : List MapEntry) (i : Nat) (r : Option (Nat × List V)), ens.length = es.length → (∀ (j : Nat) (row : List V) (x : MapEntry), es[j]? = some row → ens[j]? = some x → MRow ρ F ag row x) → findR kk k es i = some r →
    (r = none ∧ Instr.findNow (keyD kk) uk ens i = some none) ∨ ∃ j kx vs x, r = some (i + j, vs) ∧ es[j]? = some (kx :: vs) ∧ ens[j]? = some x ∧ x.key = uk ∧ Instr.findNow (keyD kk) uk ens i = some (some (i + j, x.val))
  | [], ens, i, r, hl, hr, hf => by
    have : ens = [] := List.length_eq_zero_iff.1 hl
    subst this
    simp [findR] at hf
    exact .inl ⟨hf.symm, rfl⟩
  | row :: es, ens, i, r, hl, hr, hf => by
    cases ens with
    | nil => simp at hl
    | cons x ens =>
      obtain ⟨kx, vs, rfl, hkx, -⟩ := hr 0 row x rfl rfl
      simp only [findR, Option.bind_eq_some_iff] at hf
      obtain ⟨b, hb, hf⟩ := hf
      obtain ⟨h1, h2⟩ := keyEq_sound hk hkx hb
      cases b with
      | true =>
        simp at hf
        exact .inr ⟨0, kx, vs, x, hf.symm, rfl, rfl, h2 rfl, by simp [Instr.findNow, h1]⟩
      | false =>
        simp at hf
        rcases findR_sound hk es ens (i + 1) r (by simpa using hl) (fun j row x h3 h4 => hr (j + 1) row x (by simpa using h3) (by simpa using h4)) hf with ⟨g1, g2⟩ | ⟨j, ky, ws, y, g1, g2, g3, g4, g5⟩
        · exact .inl ⟨g1, by simp [Instr.findNow, h1, g2]⟩
        · exact .inr ⟨j + 1, ky, ws, y, by rw [g1]; congr 2; omega, by simpa using g2, by simpa using g3, g4, by simp [Instr.findNow, h1, g5]; omega⟩
theorem Rel.map_inv {b : Nat} {u : Value} (h : Rel ρ F (.mp b) u) : ∃ r, u = .map (some r.blk) ∧ ρ b 0 = some r ∧ r.z = 0 := by
  cases h with
  | t h => cases h
  | mp _ r h1 h2 => exact ⟨r, rfl, h1, h2⟩
theorem lku_sound (hok : HOk H) (hs : Sim ρ F H w) {t kt et : TypeId} {kk : Option IntKind} {ag ok : Bool} {b : Nat} {h : Blk} {e : List V} {es : List (List V)} {k v zero : V} {um uk zv : Value}
    (hm : Rel ρ F (.mp b) um) (hb : H[b]? = some h) (hes : h.es = (.bool ag :: e) :: es) (hkr : Rel ρ F k uk) (hki : keyIs kk k = true) (ht : P.underlying t = some (.map kt et)) (hkt : P.underlying kt = some (keyD kk))
    (hz : (zeroValue et).run P w = .ok zv w) (hzv : ofConst zv = some zero) (hx : lkV kk ag zero ok k es = some v) :
    ∃ u, (Instr.lookup t um uk ok).run P w = .ok u w ∧ Rel ρ F v u := by
  obtain ⟨r, rfl, hr, hrz⟩ := hm.map_inv
  obtain ⟨⟨h0, ag2, e2, es2, ens, clock, m1, m2, m3, m4⟩, -⟩ := hs.mp b h r hb hr hrz
  rw [hes] at m1
  injection m1 with m1 m1'
  injection m1 with m1 _
  injection m1 with m1
  subst m1 m1'
  obtain ⟨hik, -, -⟩ := keyIs_sound hkr hki
  have hkb := hok.get hb
  have tup : ∀ {y : V} {u : Value} {q : Bool}, Rel ρ F y u → Rel ρ F (if ok then .tup [y, .bool q] else y) (if ok then .tuple #[u, .bool q] else u) := by
    intro y u q hy
    cases ok with
    | false => exact hy
    | true =>
      refine .tup _ [u, .bool q] rfl (fun j a c ha hc => ?_)
      match j with
      | 0 => simp at ha hc; subst ha hc; exact hy
      | 1 => simp at ha hc; subst ha hc; exact .t (.bool q)
      | j + 2 => simp at ha
  simp only [lkV, Option.bind_eq_some_iff, Option.map_eq_some_iff] at hx
  obtain ⟨q, hq, y, hy, rfl⟩ := hx
  rcases findR_sound hkr es ens.toList 0 q (by simpa using m3.size) (fun j row x h1 h2 => m4 j row x h1 (by simpa using h2)) hq with ⟨rfl, hf⟩ | ⟨j, kx, vs, x, rfl, h1, h2, h3, hf⟩
  · injection hy with hy
    subst hy
    refine ⟨if ok then .tuple #[zv, .bool false] else zv, ?_, tup (ofConst_rel hzv)⟩
    simp [Instr.lookup, run_underlying ht, Go.MapKept.run_getObj_map m2, run_checkKey hkt hik, run_findKey hkt hf, hz, Result.andThen]
  · refine ⟨if ok then .tuple #[x.val, .bool true] else x.val, ?_, tup ?_⟩
    · simp [Instr.lookup, run_underlying ht, Go.MapKept.run_getObj_map m2, run_checkKey hkt hik, run_findKey hkt hf, Result.andThen]
    · obtain ⟨k', vs', e1, e2, e3⟩ := m4 j _ x h1 (by simpa using h2)
      injection e1 with e1 e1'
      subst e1'
      simp only [valM] at hy
      cases ag with
      | true =>
        simp at hy e3
        subst hy
        obtain ⟨us, e4, e5⟩ := e3
        rw [e4]
        refine .agg vs us.toList e5.1 e5.2 (fun v hv => hkb.cell (kx :: vs) (by rw [hes]; exact List.mem_cons_of_mem _ (List.mem_of_getElem? h1)) v (List.mem_cons_of_mem _ hv))
      | false =>
        simp at e3
        obtain ⟨v0, rfl, e5⟩ := e3
        simp at hy
        subst hy
        exact e5
/-- a map has been written -/
theorem Sim.setMap (h : Sim ρ F H w) {b : Nat} {k k' : Blk} {r : RB} {ens' : Array MapEntry} {clock' : Nat} (hb : H[b]? = some k) (hr : ρ b 0 = some r) (hz : r.z = 0) (hne : k'.es.length ≠ 0)
    (hm : MapOk ρ F { w with heap := w.heap.setIfInBounds r.blk (.map ens' clock') } k' r) :
    Ext ρ F w ρ F { w with heap := w.heap.setIfInBounds r.blk (.map ens' clock') } ∧ Sim ρ F (H.set b k') { w with heap := w.heap.setIfInBounds r.blk (.map ens' clock') } := by
  obtain ⟨⟨h0, ag, e, es, ens, clock, m1, m2, m3, m4⟩, m5⟩ := h.mp b k r hb hr hz
  obtain ⟨s1, s2⟩ := heap_set (o' := .map ens' clock') m2
  have hblt : b < H.length := (List.getElem?_eq_some_iff.1 hb).1
  have oth : ∀ {b' L : Nat} {r' : RB}, b' ≠ b → ρ b' L = some r' → r'.blk ≠ r.blk := fun hne hr' he => hne (h.inj _ _ _ _ _ _ hr' hr he)
  refine ⟨⟨rfl, rfl, rfl, by simp, fun g hg hn => s2 g (fun e => hn b 0 r hr e.symm), .refl _, fun b L r h => .inl ⟨L, r, h, rfl⟩, .refl _, fun _ _ _ h => .inl h⟩, ?_⟩
  refine ⟨fun b' L r' hr' => ?_, fun b' q r' hb' hr' => ?_, fun b' q r' o x hb' hr' hx => ?_, fun b' q L r' hb' hr' => ?_, h.inj, fun g o x hx => ?_, fun b' q r' hb' hr' hz' => ?_⟩
  · have := h.img b' L r' hr'
    simpa using this
  · by_cases e' : b' = b
    · subst e'
      rw [List.getElem?_set_self hblt] at hb'
      injection hb' with hb'
      subst hb'
      exact absurd (m5 _ _ hr') hne
    · rw [List.getElem?_set_ne (fun h => e' h.symm)] at hb'
      obtain ⟨c, c1, c2⟩ := h.blk b' q r' hb' hr'
      exact ⟨c, by rw [s2 _ (oth e' hr')]; exact c1, c2⟩
  · by_cases e' : b' = b
    · subst e'
      rw [List.getElem?_set_self hblt] at hb'
      injection hb' with hb'
      subst hb'
      exact absurd (m5 _ _ hr') hne
    · rw [List.getElem?_set_ne (fun h => e' h.symm)] at hb'
      exact h.fz b' q r' o x hb' hr' hx
  · by_cases e' : b' = b
    · subst e'
      have := m5 _ _ hr'
      omega
    · rw [List.getElem?_set_ne (fun h => e' h.symm)] at hb'
      exact h.len b' q L r' hb' hr'
  · have h1 := h.frz g o x hx
    have hg : g ≠ r.blk := by
      intro hg
      subst hg
      unfold World.cell? at h1
      rw [m2] at h1
      cases h1
    rw [← h1]
    exact World.cell?_of_block (w := w) (s2 g hg)
  · by_cases e' : b' = b
    · subst e'
      rw [List.getElem?_set_self hblt] at hb'
      injection hb' with hb'
      subst hb'
      rw [hr] at hr'
      injection hr' with hr'
      subst hr'
      exact ⟨hm, m5⟩
    · rw [List.getElem?_set_ne (fun h => e' h.symm)] at hb'
      obtain ⟨a1, a2⟩ := h.mp b' q r' hb' hr' hz'
      exact ⟨a1.mono (.refl _) (.refl _) (s2 _ (oth e' hr')), a2⟩
theorem sameBits_key {d : TypeDesc} {u : Value} (h : IsKey d u) : Instr.sameBits 10000 u u = true := by
  cases d <;> cases u <;> simp_all [IsKey, Instr.sameBits]
  rename_i s
  exact (bytes_beq s s).2 rfl
theorem celM_sound {ag : Bool} {n : Nat} {x : V} {ux : Value} {cs : List V} (h : Rel ρ F x ux) (hc : celM ag n x = some cs) : if ag then ∃ us, ux = .agg us ∧ RelL ρ F cs us.toList else ∃ v, cs = [v] ∧ Rel ρ F v ux := by
  cases x with
  | agg as =>
    simp [celM] at hc
    obtain ⟨⟨rfl, h2⟩, rfl⟩ := hc
    cases h with
    | t h => cases h
    | agg _ us h1 h2 h3 => exact ⟨us.toArray, rfl, by simpa using h1, by simpa using h2⟩
  | _ =>
    simp [celM] at hc
    obtain ⟨rfl, rfl⟩ := hc
    exact ⟨_, rfl, h⟩
theorem mup_sound (hok : HOk H) (hs : Sim ρ F H w) {t kt et : TypeId} {kk : Option IntKind} {ag : Bool} {n b : Nat} {h : Blk} {e : List V} {es es' : List (List V)} {k x : V} {cs : List V} {um uk ux : Value}
    (hm : Rel ρ F (.mp b) um) (hb : H[b]? = some h) (hes : h.es = (.bool ag :: e) :: es) (hkr : Rel ρ F k uk) (hki : keyIs kk k = true) (ht : P.underlying t = some (.map kt et)) (hkt : P.underlying kt = some (keyD kk))
    (hxr : Rel ρ F x ux) (hc : celM ag n x = some cs) (hzz : h.z = n + 1) (hcn : cs.length = n) (hct : cs.all V.tree = true) (hx : upM kk k cs es = some es') :
    ∃ w', (Instr.mapUpdate t um uk ux).run P w = .ok () w' ∧ Step ρ F H w .undef (.upd (H.set b { h with es := (.bool ag :: e) :: es', flat := h.flat && cs.all V.flat }) [b]) Go.undef w' := by
  obtain ⟨r, rfl, hr, hrz⟩ := hm.map_inv
  obtain ⟨⟨h0, ag2, e2, es2, ens, clock, m1, m2, m3, m4⟩, -⟩ := hs.mp b h r hb hr hrz
  rw [hes] at m1
  injection m1 with m1 m1'
  injection m1 with m1 _
  injection m1 with m1
  subst m1 m1'
  obtain ⟨hik, hkt', hkf⟩ := keyIs_sound hkr hki
  have hkb := hok.get hb
  have m3s := m3.size
  have hct' : ∀ v ∈ cs, v.tree = true := fun v hv => List.all_eq_true.1 hct v hv
  have hval := celM_sound hxr hc
  have hrow : ∀ x0 : MapEntry, MRow ρ F ag (k :: cs) { x0 with key := uk, val := ux } := fun x0 => ⟨k, cs, rfl, hkr, hval⟩
  -- the block stays right
  have hblk : ∀ es' : List (List V), (∀ row ∈ es', row = k :: cs ∨ row ∈ es) → BlkOk { h with es := (.bool ag :: e) :: es', flat := h.flat && cs.all V.flat } := by
    intro es' hin
    have mem : ∀ row ∈ (.bool ag :: e) :: es', row = k :: cs ∨ row ∈ h.es := fun row hrow => by
      rcases List.mem_cons.1 hrow with rfl | h1
      · right; rw [hes]; exact List.mem_cons_self
      · rcases hin row h1 with h2 | h2
        · exact .inl h2
        · right; rw [hes]; exact List.mem_cons_of_mem _ h2
    refine ⟨fun row hr => ?_, fun row hr v hv => ?_, fun hb => by simp [h0] at hb, fun _ row hr v hv => ?_, fun hf row hr v hv => ?_⟩
    · rcases mem row hr with rfl | h1
      · simp [hcn, hzz]
      · exact hkb.z row h1
    · rcases mem row hr with rfl | h1
      · rcases List.mem_cons.1 hv with rfl | h2
        · exact V.cell_of_tree hkt'
        · exact V.cell_of_tree (hct' v h2)
      · exact hkb.cell row h1 v hv
    · rcases mem row hr with rfl | h1
      · rcases List.mem_cons.1 hv with rfl | h2
        · exact hkt'
        · exact hct' v h2
      · exact hkb.tree h0 row h1 v hv
    · simp only [Bool.and_eq_true] at hf
      rcases mem row hr with rfl | h1
      · rcases List.mem_cons.1 hv with rfl | h2
        · exact hkf
        · exact List.all_eq_true.1 hf.2 v h2
      · exact hkb.flat hf.1 row h1 v hv
  simp only [upM, Option.map_eq_some_iff] at hx
  obtain ⟨q, hq, hx⟩ := hx
  have fin : ∀ (ens' : Array MapEntry) (clock' : Nat), (Instr.mapUpdate t (.map (some r.blk)) uk ux).run P w = .ok () { w with heap := w.heap.setIfInBounds r.blk (.map ens' clock') } → EnsOk ens' clock' es'.length → (∀ (i : Nat) (row : List V) (x : MapEntry), es'[i]? = some row → ens'[i]? = some x → MRow ρ F ag row x) → (∀ row ∈ es', row = k :: cs ∨ row ∈ es) →
      ∃ w', (Instr.mapUpdate t (.map (some r.blk)) uk ux).run P w = .ok () w' ∧ Step ρ F H w .undef (.upd (H.set b { h with es := (.bool ag :: e) :: es', flat := h.flat && cs.all V.flat }) [b]) Go.undef w' := by
    intro ens' clock' hrun hsz hrel hin
    obtain ⟨hE, hS⟩ := hs.setMap (k' := { h with es := (.bool ag :: e) :: es', flat := h.flat && cs.all V.flat }) (ens' := ens') (clock' := clock') hb hr hrz (by simp) ⟨h0, ag, e, es', ens', clock', rfl, (heap_set m2).1, hsz, hrel⟩
    exact ⟨_, hrun, HOk.set hok (hblk es' hin) b, ρ, F, hE, hS, .undef _, fun l hl => by cases hl⟩
  rcases findR_sound hkr es ens.toList 0 q (by simpa using m3.size) (fun j row x h1 h2 => m4 j row x h1 (by simpa using h2)) hq with ⟨rfl, hf⟩ | ⟨j, kx, vs, x0, rfl, h1, h2, h3, hf⟩
  · simp only at hx
    subst hx
    refine fin (ens.push { key := uk, val := ux, born := clock }) (clock + 1) ?_ ⟨by simp [m3.size], fun x hx => ?_, ?_⟩ (fun i row y hi hy => ?_) (fun row hrw => ?_)
    · simp [Instr.mapUpdate, run_underlying ht, Go.MapKept.run_getObj_map m2, run_checkKey hkt hik, run_findKey hkt hf, Go.MapKept.run_setObj_map _ m2, Result.andThen]
    · simp only [Array.toList_push, List.mem_append, List.mem_singleton] at hx
      rcases hx with hx | rfl
      · exact Nat.lt_succ_of_lt (m3.past x hx)
      · exact Nat.lt_succ_self _
    · simp only [Array.toList_push, List.map_append, List.map_cons, List.map_nil]
      refine List.nodup_append.2 ⟨m3.once, by simp, fun a ha b hb => ?_⟩
      obtain ⟨x, hx, rfl⟩ := List.mem_map.1 ha
      simp only [List.mem_singleton] at hb
      subst hb
      exact Nat.ne_of_lt (m3.past x hx)
    · rw [Array.getElem?_push] at hy
      split at hy
      · rename_i hi'
        injection hy with hy
        subst hy
        rw [List.getElem?_append_right (by omega)] at hi
        have : i - es.length = 0 := by omega
        rw [this] at hi
        simp at hi
        subst hi
        exact hrow { key := uk, val := ux, born := clock }
      · have hlt := (Array.getElem?_eq_some_iff.1 hy).1
        rw [List.getElem?_append_left (by omega)] at hi
        exact m4 i row y hi hy
    · rcases List.mem_append.1 hrw with h1 | h1
      · exact .inr h1
      · exact .inl (by simpa using h1)
  · simp only [Nat.zero_add] at hx hf
    subst hx
    have h2' : ens[j]? = some x0 := by simpa using h2
    have hborn : (ens.modify j fun y => { y with key := uk, val := ux }).toList.map (·.born) = ens.toList.map (·.born) := by
      rw [Array.toList_modify]
      refine List.ext_getElem? fun i => ?_
      rw [List.getElem?_map, List.getElem?_map, List.getElem?_modify]
      cases ens.toList[i]? with
      | none => rfl
      | some y => simp only [Option.map_some]; split <;> rfl
    refine fin (ens.modify j fun y => { y with key := uk, val := ux }) clock ?_ ⟨by simp [m3.size], fun y hy => ?_, ?_⟩ (fun i row y hi hy => ?_) (fun row hrw => ?_)
    · simp [Instr.mapUpdate, run_underlying ht, Go.MapKept.run_getObj_map m2, run_checkKey hkt hik, run_findKey hkt hf, Go.MapKept.run_setObj_map _ m2, Result.andThen, Instr.keyThatStays, h2', h3, sameBits_key hik]
    · obtain ⟨i, hi⟩ := List.mem_iff_getElem?.1 hy
      have hm : ∀ y' ∈ ens.toList.map (·.born), y' < clock := fun y' hy' => by obtain ⟨x, hx, rfl⟩ := List.mem_map.1 hy'; exact m3.past x hx
      refine hm _ ?_
      rw [← hborn]
      exact List.mem_map.2 ⟨y, hy, rfl⟩
    · rw [hborn]
      exact m3.once
    · rw [Array.getElem?_modify] at hy
      rw [List.getElem?_set] at hi
      by_cases e' : j = i
      · subst e'
        rw [if_pos rfl] at hy hi
        split at hi
        · injection hi with hi
          subst hi
          rw [h2'] at hy
          simp at hy
          subst hy
          exact hrow x0
        · cases hi
      · rw [if_neg e'] at hy hi
        exact m4 i row y hi hy
    · rcases List.mem_or_eq_of_mem_set hrw with h1 | h1
      · exact .inr h1
      · exact .inl h1
end
end Go.AM
