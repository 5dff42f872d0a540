/- One operation of the executor against the model's: new blocks, appends. -/
import Derived.Test.YtdgineiemjplhaaAmOpsE
set_option linter.unusedVariables false
set_option linter.unusedSimpArgs false
namespace Go.AM
open Go Go.RowKit
section
variable {P : Program} {ρ : Rho} {F : Fz} {H : Heap} {w : World} {fr : List V} {a : Act}

/-! ### Rows of elements -/
theorem RelB.append {z : Nat} {es fs : List (List V)} {us vs : List Value} (h : RelB ρ F z es us.toArray) (k : RelB ρ F z fs vs.toArray) (hl : us.length = es.length * z) : RelB ρ F z (es ++ fs) (us ++ vs).toArray := by
  intro i e j v he hv
  by_cases hi : i < es.length
  · rw [List.getElem?_append_left hi] at he
    obtain ⟨u, hu, hr⟩ := h i e j v he hv
    simp only [List.getElem?_toArray] at hu ⊢
    have := (List.getElem?_eq_some_iff.1 hu).1
    exact ⟨u, by rw [List.getElem?_append_left this]; exact hu, hr⟩
  · rw [List.getElem?_append_right (by omega)] at he
    obtain ⟨u, hu, hr⟩ := k _ e j v he hv
    simp only [List.getElem?_toArray] at hu ⊢
    have hle : es.length * z ≤ i * z := Nat.mul_le_mul_right _ (by omega)
    rw [Nat.mul_sub_right_distrib] at hu
    refine ⟨u, by rw [List.getElem?_append_right (by omega), hl, ← hu]; congr 1; omega, hr⟩
theorem RelB.nil {z : Nat} {cur : Array Value} : RelB ρ F z [] cur := by intro i e j v he; simp at he
theorem RelB.take {z : Nat} {es : List (List V)} {cur : Array Value} (h : RelB ρ F z es cur) (n : Nat) (hz : ∀ e ∈ es, e.length = z) : RelB ρ F z (es.take n) (cur.toList.take (n * z)).toArray := by
  intro i e j v he hv
  rw [List.getElem?_take] at he
  split at he
  · rename_i hi
    obtain ⟨u, hu, hr⟩ := h i e j v he hv
    refine ⟨u, ?_, hr⟩
    have hj := (List.getElem?_eq_some_iff.1 hv).1
    rw [hz e (List.mem_of_getElem? he)] at hj
    have : (i + 1) * z ≤ n * z := Nat.mul_le_mul_right _ hi
    rw [Nat.add_mul] at this
    simp only [List.getElem?_toArray]
    rw [List.getElem?_take, if_pos (by omega)]
    simpa using hu
  · cases he
theorem RelB.drop {z : Nat} {es : List (List V)} {cur : Array Value} (h : RelB ρ F z es cur) (n : Nat) : RelB ρ F z (es.drop n) (cur.toList.drop (n * z)).toArray := by
  intro i e j v he hv
  rw [List.getElem?_drop] at he
  obtain ⟨u, hu, hr⟩ := h (n + i) e j v he hv
  refine ⟨u, ?_, hr⟩
  rw [Nat.add_mul] at hu
  simp only [List.getElem?_toArray, List.getElem?_drop]
  rw [← hu]
  simp only [Array.getElem?_toList]
  congr 1
  omega
theorem arr_app (us : List Value) (Z : Array Value) : (us ++ Z.toList).toArray = us.toArray ++ Z := by apply Array.toList_inj.1; simp
theorem RelB.more {z : Nat} {es : List (List V)} {us vs : List Value} (h : RelB ρ F z es us.toArray) : RelB ρ F z es (us ++ vs).toArray := by
  intro i e j v he hv
  obtain ⟨u, hu, hr⟩ := h i e j v he hv
  simp only [List.getElem?_toArray] at hu ⊢
  exact ⟨u, by rw [List.getElem?_append_left (List.getElem?_eq_some_iff.1 hu).1]; exact hu, hr⟩

/-- the elements of a slice, cell by cell -/
theorem elems_sound (hok : HOk H) (hs : Sim ρ F H w) {z : Nat} {y : V} {uy : Value} {ys : List (List V)} (hy : Rel ρ F y uy) (h : elemsOf H z y = some ys) :
    (∀ e ∈ ys, e.length = z) ∧ (∀ e ∈ ys, ∀ v ∈ e, v.tree = true) ∧ ∃ A cap, uy = .slice A ys.length cap ∧ ys.length ≤ cap ∧ cap ≤ maxLen ∧ ∃ news : List Value, news.length = ys.length * z ∧ RelB ρ F z ys news.toArray ∧ (∀ u ∈ news, u.oneCell' = true) ∧
      (ys ≠ [] → ∃ ad, A = some ad ∧ ∀ (j : Nat) (u : Value), news[j]? = some u → w.cell? (ad.add j) = some u) := by
  have mk : ∀ {es : List (List V)} {g o : Nat} {cellv : Nat → Value}, (∀ e ∈ es, e.length = z) → (∀ (i : Nat) (e : List V) (j : Nat) (v : V), es[i]? = some e → e[j]? = some v → w.cell? ⟨g, o + (i * z + j), .none⟩ = some (cellv (i * z + j)) ∧ RelT F v (cellv (i * z + j))) →
      ∃ news : List Value, news.length = es.length * z ∧ RelB ρ F z es news.toArray ∧ (∀ u ∈ news, u.oneCell' = true) ∧ ∀ (j : Nat) (u : Value), news[j]? = some u → w.cell? ((⟨g, o, .none⟩ : Addr).add j) = some u := by
    intro es g o cellv hz hc
    have hall : ∀ p, p < es.length * z → ∃ (i : Nat) (e : List V) (j : Nat) (v : V), es[i]? = some e ∧ e[j]? = some v ∧ p = i * z + j := by
      intro p hp
      have hzp : 0 < z := Nat.pos_of_ne_zero (by rintro rfl; simp at hp)
      have hi : p / z < es.length := Nat.div_lt_of_lt_mul (by rw [Nat.mul_comm]; exact hp)
      have hj : p % z < es[p / z].length := by rw [hz _ (List.getElem_mem hi)]; exact Nat.mod_lt _ hzp
      exact ⟨p / z, _, p % z, _, List.getElem?_eq_getElem hi, List.getElem?_eq_getElem hj, by rw [Nat.mul_comm]; exact (Nat.div_add_mod p z).symm⟩
    have hget : ∀ p, p < es.length * z → ((List.range (es.length * z)).map cellv)[p]? = some (cellv p) := fun p hp => by simp [hp]
    refine ⟨(List.range (es.length * z)).map cellv, by simp, ?_, ?_, ?_⟩
    · intro i e j v he hv
      have hi := (List.getElem?_eq_some_iff.1 he).1
      have hj := (List.getElem?_eq_some_iff.1 hv).1
      rw [hz e (List.mem_of_getElem? he)] at hj
      have : (i + 1) * z ≤ es.length * z := Nat.mul_le_mul_right _ hi
      rw [Nat.add_mul] at this
      simp only [List.getElem?_toArray]
      exact ⟨_, hget _ (by omega), .t (hc i e j v he hv).2⟩
    · intro u hu
      obtain ⟨p, hp, rfl⟩ := List.mem_map.1 hu
      obtain ⟨i, e, j, v, he, hv, rfl⟩ := hall p (by simpa using hp)
      rw [oneC_eq]
      exact (hc i e j v he hv).2.oneCell
    · intro p u hu
      have hp : p < es.length * z := by have := (List.getElem?_eq_some_iff.1 hu).1; simpa using this
      rw [hget p hp] at hu
      injection hu with hu
      subst hu
      obtain ⟨i, e, j, v, he, hv, rfl⟩ := hall p hp
      rw [addr_add]
      exact (hc i e j v he hv).1
  cases y with
  | nils =>
    simp [elemsOf] at h
    subst h
    cases hy with
    | t hy => cases hy; exact ⟨by simp, by simp, none, 0, rfl, by simp, by simp [maxLen], [], by simp, RelB.nil, by simp, by simp⟩
  | tsl z' es =>
    simp only [elemsOf] at h
    split at h
    · rename_i hzz
      injection h with h
      subst h hzz
      cases hy.tsl_inv with
      | tsl _ _ A cap g o us h1 h2 h3 h4 h5 h6 =>
        obtain ⟨news, n1, n2, n3, n4⟩ := mk (es := es) (g := g) (o := o) (cellv := fun p => us (p / z') (p % z')) h6 (fun i e j v he hv => by
          have hj := (List.getElem?_eq_some_iff.1 hv).1
          rw [h6 e (List.mem_of_getElem? he)] at hj
          have d1 : (i * z' + j) / z' = i := by rw [Nat.mul_comm, Nat.mul_add_div (by omega), Nat.div_eq_of_lt hj]; rfl
          have d2 : (i * z' + j) % z' = j := by rw [Nat.mul_comm, Nat.mul_add_mod, Nat.mod_eq_of_lt hj]
          simp only [d1, d2]
          refine ⟨?_, h5 i e j v he hv⟩
          have := hs.frz _ _ _ (h4 i e j v he hv)
          rwa [Nat.add_assoc] at this)
        refine ⟨h6, fun e he v hv => ?_, A, cap, rfl, h1, h2, news, n1, n2, n3, fun hne => ⟨_, h3.2 hne, n4⟩⟩
        obtain ⟨i, hi⟩ := List.mem_iff_getElem?.1 he
        obtain ⟨j, hj⟩ := List.mem_iff_getElem?.1 hv
        exact (h5 i e j v hi hj).tree
    · cases h
  | sl z' b L o n =>
    simp only [elemsOf, Option.bind_eq_some_iff] at h
    obtain ⟨k, hk, h⟩ := h
    split at h
    · rename_i hc
      simp only [Bool.and_eq_true, decide_eq_true_eq, Bool.not_eq_true'] at hc
      obtain ⟨⟨⟨hL, hbox⟩, hkz⟩, hon⟩ := hc
      injection h with h
      subst h hL
      obtain ⟨r, c0, hr, hzz, h0, h1, h2, rfl⟩ := hy.sl_inv
      obtain ⟨cur, hc, hsz, hz, hcap, hb⟩ := hs.blk b k r hk hr
      have hkk := hok.get hk
      have hlen : ((k.es.drop o).take n).length = n := by simp; omega
      have hel : ∀ (i : Nat) (e : List V), ((k.es.drop o).take n)[i]? = some e → k.es[o + i]? = some e := by
        intro i e he
        rw [List.getElem?_take] at he
        split at he
        · rwa [List.getElem?_drop] at he
        · cases he
      have hzl : ∀ e ∈ (k.es.drop o).take n, e.length = z := fun e he => by rw [← hkz]; exact hkk.z e (List.mem_of_mem_drop (List.mem_of_mem_take he))
      have htr : ∀ e ∈ (k.es.drop o).take n, ∀ v ∈ e, v.tree = true := fun e he v hv => hkk.tree hbox e (List.mem_of_mem_drop (List.mem_of_mem_take he)) v hv
      obtain ⟨news, n1, n2, n3, n4⟩ := mk (es := (k.es.drop o).take n) (g := r.blk) (o := o * r.z) (cellv := fun p => (cur[o * z + p]?).getD default) hzl (fun i e j v he hv => by
        have he' := hel i e he
        obtain ⟨u, hu, hrel⟩ := hb (o + i) e j v he' hv
        rw [hkz, Nat.add_mul, Nat.add_assoc] at hu
        rw [hu, cell_of hc, hz, hkz]
        exact ⟨hu, hrel.tree (htr e (List.mem_of_getElem? he) v (List.mem_of_getElem? hv))⟩)
      refine ⟨hzl, htr, some ⟨r.blk, o * r.z, .none⟩, c0, by rw [hlen], by rw [hlen]; omega, by omega, news, n1, n2, n3, fun _ => ⟨_, rfl, n4⟩⟩
    · cases h
  | _ => simp [elemsOf] at h

theorem append_zero_run {t e : TypeId} {i : TypeInfo} {A B : Option Addr} {n cap c : Nat} {ty : TypeId} (ht : P.underlying t = some (.slice e)) (hi : P.info? e = some i) (hn : n ≤ cap) : (Builtin.append_ #[t, t] ty #[.slice A n cap, .slice B 0 c]).run P w = .ok (.slice A n cap) w := by
  cases A <;> cases B <;> simp [Builtin.append_, run_underlying ht, sizeOf, typeInfo, hi, Builtin.lenOf, Builtin.firstCells, loadCells, loadCellsFrom, storeCells, hn]
theorem append_room_run {t ty e te : TypeId} {i : TypeInfo} (ht : P.underlying t = some (.slice e)) (hi : P.info? e = some i) {g sLen sCap : Nat} {cur : Array Value} (hg : w.heap[g]? = some (.cells cur te (0, 0)))
    {ad : Addr} {m c : Nat} {news : List Value} (hl : news.length = m * i.size) (hnews : ∀ (j : Nat) (u : Value), news[j]? = some u → w.cell? (ad.add j) = some u) (h1 : ∀ u ∈ news, u.oneCell' = true) (hroom : sLen + m ≤ sCap) (hfit : sLen * i.size + news.length ≤ cur.size) :
    (Builtin.append_ #[t, t] ty #[.slice (some ⟨g, 0, none⟩) sLen sCap, .slice (some ad) m c]).run P w =
      .ok (.slice (some ⟨g, 0, none⟩) (sLen + m) sCap) (w.setRow g (cur.toList.take (sLen * i.size) ++ news ++ cur.toList.drop (sLen * i.size + news.length)).toArray) := by
  have hf := run_firstCells_some (P := P) w i.size m ad m c news hl hnews
  have hst := run_storeCells_at P g (sLen * i.size) te news 0 cur w hg (by simpa using hfit) h1
  simp only [Nat.add_zero] at hst
  simp [Builtin.append_, run_underlying ht, sizeOf, typeInfo, hi, Builtin.lenOf, hroom, hf, Addr.add_lit, hst]
theorem BlkOk.new {z : Nat} {es : List (List V)} (hz : ∀ e ∈ es, e.length = z) (ht : ∀ e ∈ es, ∀ v ∈ e, v.tree = true) : BlkOk { z := z, es := es, fz := 0, box := false, flat := es.all (·.all V.flat) } :=
  ⟨hz, fun e he v hv => V.cell_of_tree (ht e he v hv), (fun h => by cases h), fun _ => ht, fun h e he v hv => List.all_eq_true.1 (List.all_eq_true.1 h e he) v hv⟩

theorem app_sound (hok : HOk H) (hs : Sim ρ F H w) {t ty el : TypeId} {ti : TypeInfo} {zv : Value} {z bytes : Nat} {x y v : V} {ux uy : Value} {e : Eff} (ht : P.underlying t = some (.slice el)) (hi : P.info? el = some ti) (hsz : ti.size = z) (hby : ti.bytes = bytes) (hz0 : ti.zero = some zv) (hzv : zv.cells.size = z)
    (hx : Rel ρ F x ux) (hy : Rel ρ F y uy) (h : appV H el z bytes x y = some (v, e)) : ∃ u w', (Builtin.append_ #[t, t] ty #[ux, uy]).run P w = .ok u w' ∧ Step ρ F H w v e u w' := by
  simp only [appV, Option.bind_eq_some_iff] at h
  obtain ⟨ys, hys, h⟩ := h
  obtain ⟨hyz, hyt, A, cap, rfl, hcap, hcapm, news, hnl, hnb, hn1, hnc⟩ := elems_sound hok hs hy hys
  have room : ∀ {n : Nat}, roomB n bytes = true → n * bytes ≤ 140737488351232 ∧ n ≤ 140737488351232 := by
    intro n hr
    simpa [roomB] using hr
  have hml : maxLen = 9223372036854775807 := rfl
  cases x with
  | nils =>
    dsimp only at h
    cases hx with
    | t hx =>
    cases hx
    split at h
    · rename_i hemp
      injection h with h
      injection h with h1 h2
      subst h1 h2
      have : ys = [] := by simpa using hemp
      subst this
      exact ⟨_, _, append_zero_run ht hi (Nat.le_refl 0), Step.pure hok hs (.t .nils)⟩
    · rename_i hemp
      split at h
      · rename_i hroom
        injection h with h
        injection h with h1 h2
        subst h1 h2
        have hne : ys ≠ [] := by simpa using hemp
        obtain ⟨hr1, hr2⟩ := room hroom
        obtain ⟨ad, rfl, hcell⟩ := hnc hne
        have hpos : 0 < ys.length := List.length_pos_iff.2 hne
        have hrun := run_append_nil (P := P) w t ty el ti zv ht hi hz0 ad ys.length cap news (by rw [hsz]; exact hnl) hcell hpos (by omega) (by rw [hby]; omega)
        have hge := grownCap_ge w ys.length 0 el
        have hle := grownCap_le_maxLen w ys.length 0 el (by rw [hml]; omega)
        have hsize : (news.toArray ++ Builtin.zeroCells zv.cells (grownCap w ys.length 0 el - ys.length)).size = grownCap w ys.length 0 el * z := by
          simp only [Array.size_append, size_zeroCells, hzv, List.size_toArray, hnl]
          rw [← Nat.add_mul]
          congr 1
          omega
        obtain ⟨hE, hS⟩ := hs.alloc (w' := w.drew.alloc (.cells (news.toArray ++ Builtin.zeroCells zv.cells (grownCap w ys.length 0 el - ys.length)) el)) (k := { z := z, es := ys, fz := 0, box := false, flat := ys.all (·.all V.flat) })
          (cap := grownCap w ys.length 0 el) rfl rfl rfl rfl hsize hge (by
            have := RelB.more (vs := (Builtin.zeroCells zv.cells (grownCap w ys.length 0 el - ys.length)).toList) hnb
            rw [arr_app] at this
            exact this) (fun h0 => by have hy0 : ys = [] := by simpa using h0
                                      simp_all)
        refine ⟨_, _, hrun, hok.append (HOk.one (BlkOk.new hyz hyt)), _, F, hE, hS, ?_, fun _ _ => add_loc⟩
        have := Rel.slF (F := F) H.length ys.length 0 ys.length _ (Rho.add_same ρ H.length ys.length ⟨w.heap.size, z, el, grownCap w ys.length 0 el⟩) (by simpa using hge) hle
        simpa using this
      · cases h
  | sl z' b L o n =>
    cases o with
    | succ o => simp at h
    | zero =>
    simp only [Option.bind_eq_some_iff] at h
    obtain ⟨k, hk, h⟩ := h
    split at h
    · rename_i hc
      simp only [Bool.and_eq_true, decide_eq_true_eq, Bool.not_eq_true'] at hc
      obtain ⟨⟨⟨⟨⟨hL, hbox⟩, hkz⟩, hnL⟩, hfz⟩, hroom⟩ := hc
      subst hL
      obtain ⟨hr1, hr2⟩ := room hroom
      obtain ⟨r, c0, hr, hzz, h0, h1, h2, rfl⟩ := hx.sl_inv
      obtain ⟨cur, hcur, hcsz, hrz, hkcap, hb⟩ := hs.blk b k r hk hr
      have hb : RelB ρ F k.z k.es cur := hb
      have hkk := hok.get hk
      have hz'z : z' = z := by rw [← hzz, hrz, hkz]
      subst hz'z
      simp only [Nat.zero_mul, Nat.sub_zero, Nat.zero_add] at h1 ⊢
      split at h
      · rename_i hemp
        injection h with h
        injection h with h3 h4
        subst h3 h4
        have : ys = [] := by simpa using hemp
        subst this
        exact ⟨_, _, append_zero_run ht hi h0, Step.pure hok hs (by simpa using hx)⟩
      · rename_i hemp
        have hne : ys ≠ [] := by simpa using hemp
        have hpos : 0 < ys.length := List.length_pos_iff.2 hne
        split at h
        · cases h
        rename_i hlong
        injection h with h
        injection h with h3 h4
        subst h3 h4
        obtain ⟨ad, rfl, hcell⟩ := hnc hne
        rw [hkz] at hb
        have hzl := hkk.z
        rw [hkz] at hzl
        have hcsz' : cur.size = r.cap * z' := by rw [hcsz, hrz, hkz]
        have hLcap : n * z' ≤ r.cap * z' := Nat.mul_le_mul_right _ (by omega)
        have hnlen : (k.es.take n).length = n := by simp; omega
        have htl : (cur.toList.take (n * z')).length = n * z' := by simp; omega
        have hlen' : (k.es.take n ++ ys ++ k.es.drop (n + ys.length)).length = max k.es.length (n + ys.length) := by simp; omega
        -- the new block
        have hnew : BlkOk { k with es := k.es.take n ++ ys ++ k.es.drop (n + ys.length), flat := k.flat && ys.all (·.all V.flat) } := by
          have hin : ∀ e ∈ k.es.take n ++ ys ++ k.es.drop (n + ys.length), e ∈ k.es ∨ e ∈ ys := by
            intro e he
            rcases List.mem_append.1 he with he | he
            · rcases List.mem_append.1 he with he | he
              · exact .inl (List.mem_of_mem_take he)
              · exact .inr he
            · exact .inl (List.mem_of_mem_drop he)
          refine ⟨fun e he => ?_, fun e he v hv => ?_, fun h => by simp [hbox] at h, fun _ e he v hv => ?_, fun hf e he v hv => ?_⟩
          · rcases hin e he with h | h
            · exact hkk.z e h
            · rw [hyz e h]; exact hkz.symm
          · rcases hin e he with h | h
            · exact hkk.cell e h v hv
            · exact V.cell_of_tree (hyt e h v hv)
          · rcases hin e he with h | h
            · exact hkk.tree hbox e h v hv
            · exact hyt e h v hv
          · simp only [Bool.and_eq_true] at hf
            rcases hin e he with h | h
            · exact hkk.flat hf.1 e h v hv
            · exact List.all_eq_true.1 (List.all_eq_true.1 hf.2 e h) v hv
        have hLe : k.es.length ≤ (k.es.take n ++ ys ++ k.es.drop (n + ys.length)).length := by rw [hlen']; omega
        by_cases hfit : n + ys.length ≤ c0
        · have hfit' : n * z' + news.length ≤ cur.size := by
            rw [hnl, ← Nat.add_mul, hcsz']
            exact Nat.mul_le_mul_right _ (by omega)
          have hrun := append_room_run (P := P) (ty := ty) ht hi hcur (m := ys.length) (c := cap) (by rw [hsz]; exact hnl) hcell hn1 hfit (by rw [hsz]; exact hfit')
          rw [hsz] at hrun
          have hrb : RelB ρ F z' (k.es.take n ++ ys ++ k.es.drop (n + ys.length)) (cur.toList.take (n * z') ++ news ++ cur.toList.drop (n * z' + news.length)).toArray := by
            have h5 := RelB.append (RelB.append (hb.take n hzl) hnb (by rw [htl, hnlen])) (hb.drop (n + ys.length)) (by simp only [List.length_append, htl, hnl, hnlen]; rw [Nat.add_mul])
            rw [hnl, ← Nat.add_mul]
            exact h5
          have hle' : Rle ρ (ρ.add b (k.es.take n ++ ys ++ k.es.drop (n + ys.length)).length r) := Rho.add_le fun r' hr' => by
            have := hs.len b k _ r' hk hr'
            have e : (k.es.take n ++ ys ++ k.es.drop (n + ys.length)).length = k.es.length := by omega
            rw [e, hr] at hr'
            exact (Option.some.inj hr').symm
          obtain ⟨hE, hS⟩ := hs.write (k' := { k with es := k.es.take n ++ ys ++ k.es.drop (n + ys.length), flat := k.flat && ys.all (·.all V.flat) }) (cur' := (cur.toList.take (n * z') ++ news ++ cur.toList.drop (n * z' + news.length)).toArray) hk hr hcur
            (by simp; omega) rfl hLe (by simp only [hlen']; omega) (Nat.le_refl _) (fun o x hx => by
              have hlt := hs.fz b k r o x hk hr hx
              rw [hkz] at hlt
              have : k.fz * z' ≤ n * z' := Nat.mul_le_mul_right _ hfz
              simp only [List.getElem?_toArray]
              rw [List.append_assoc, List.getElem?_append_left (by omega), List.getElem?_take, if_pos (by omega)]
              simp) (by rw [hkz]; exact hrb.mono hle' (.refl _))
          refine ⟨_, _, hrun, hok.set hnew b, _, F, hE, hS, ?_, fun l h => by cases h⟩
          have := Rel.sl (F := F) b (k.es.take n ++ ys ++ k.es.drop (n + ys.length)).length 0 (n + ys.length) c0 r (Rho.add_same ρ b _ r) hfit (by omega) h2
          rw [hzz] at this
          simpa using this
        · have hrun := run_append_grow (P := P) w t ty el ti zv ht hi hz0 ⟨r.blk, 0, none⟩ n c0 (cur.toList.take (n * z')) (by rw [htl, hsz]) (fun j u hu => by
              rw [addr_add, Nat.zero_add, cell_of hcur]
              rw [List.getElem?_take] at hu
              split at hu
              · simpa using hu
              · cases hu) ad ys.length cap news (by rw [hsz]; exact hnl) hcell (by omega) (by omega) (by rw [hby]; exact growslice_fits (by omega) (by omega))
          have hge := grownCap_ge w (n + ys.length) c0 el
          have hle := grownCap_le_maxLen w (n + ys.length) c0 el (by rw [hml]; omega)
          have hdrop : k.es.drop (n + ys.length) = [] := List.drop_eq_nil_of_le (by omega)
          have hsize : ((cur.toList.take (n * z')).toArray ++ news.toArray ++ Builtin.zeroCells zv.cells (grownCap w (n + ys.length) c0 el - (n + ys.length))).size = grownCap w (n + ys.length) c0 el * z' := by
            simp only [Array.size_append, size_zeroCells, hzv, List.size_toArray, hnl, htl]
            rw [← Nat.add_mul, ← Nat.add_mul]
            congr 1
            omega
          have hrb : RelB ρ F z' (k.es.take n ++ ys ++ k.es.drop (n + ys.length)) ((cur.toList.take (n * z')).toArray ++ news.toArray ++ Builtin.zeroCells zv.cells (grownCap w (n + ys.length) c0 el - (n + ys.length))) := by
            rw [hdrop, List.append_nil]
            have h5 := RelB.more (vs := (Builtin.zeroCells zv.cells (grownCap w (n + ys.length) c0 el - (n + ys.length))).toList) (RelB.append (hb.take n hzl) hnb (by rw [htl, hnlen]))
            rw [arr_app] at h5
            simpa using h5
          obtain ⟨hE, hS⟩ := hs.regrow (k' := { k with es := k.es.take n ++ ys ++ k.es.drop (n + ys.length), flat := k.flat && ys.all (·.all V.flat) }) (cap := grownCap w (n + ys.length) c0 el) (ty := el) hk hr
            (w' := w.drew.alloc (.cells ((cur.toList.take (n * z')).toArray ++ news.toArray ++ Builtin.zeroCells zv.cells (grownCap w (n + ys.length) c0 el - (n + ys.length))) el))
            rfl rfl rfl rfl (by rw [hsize, ← hkz]) rfl (by simp only [hlen']; omega) (by simp only [hlen']; omega) (by rw [hkz]; exact hrb)
          refine ⟨_, _, hrun, hok.set hnew b, _, F, hE, hS, ?_, fun l h => by cases h⟩
          have := Rel.slF (F := F) b (k.es.take n ++ ys ++ k.es.drop (n + ys.length)).length 0 (n + ys.length) _ (Rho.add_same ρ b _ ⟨w.heap.size, k.z, el, grownCap w (n + ys.length) c0 el⟩) (by simp only; omega) hle
          rw [show (⟨w.heap.size, k.z, el, grownCap w (n + ys.length) c0 el⟩ : RB).z = z' from hkz] at this
          simpa using this
    · cases h
  | _ => simp at h
end
end Go.AM
