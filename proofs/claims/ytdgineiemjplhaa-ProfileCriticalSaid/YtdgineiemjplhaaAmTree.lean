/- Running code without loops into a tree of decisions; what holds at each of its leaves. -/
import Derived.Test.YtdgineiemjplhaaAmInv
set_option linter.unusedVariables false
set_option linter.unusedSimpArgs false
namespace Go.AM
open Go
/-- one of two, by a bool -/
def kif {α : Type} (b : Bool) (x y : α) : α := match b with
  | true => x
  | false => y
theorem kif_congr {α : Type} {b c : Bool} {x y u v : α} (h : b = c) (h1 : c = true → x = u) (h2 : c = false → y = v) : kif b x y = kif c u v := by
  subst h; cases b
  · exact h2 rfl
  · exact h1 rfl
/-- the same, where the test is taken apart -/
def kifg {α : Type} (b : Bool) (x y : α) : α := kif b x y
section
variable {α : Type} {x y : α} {b c d : Bool}
theorem kif_tr : kif true x y = x := rfl
theorem kif_fl : kif false x y = y := rfl
theorem kif_same : kif b x x = x := by cases b <;> rfl
theorem kif_not : kif (!b) x y = kif b y x := by cases b <;> rfl
theorem kif_or : kif (b || c) x y = kif b x (kif c x y) := by cases b <;> rfl
theorem kif_and : kif (b && c) x y = kif b (kif c x y) y := by cases b <;> rfl
theorem kifg_not : kifg (!b) x y = kifg b y x := by cases b <;> rfl
theorem kifg_or : kifg (b || c) x y = kifg b x (kifg c x y) := by cases b <;> rfl
theorem kifg_and : kifg (b && c) x y = kifg b (kifg c x y) y := by cases b <;> rfl
theorem kifg_tr : kifg true x y = x := rfl
theorem kifg_fl : kifg false x y = y := rfl
theorem kifg_kif : kifg b x y = kif b x y := rfl
theorem kifB_t : kif b true c = (b || c) := by cases b <;> rfl
theorem kifB_f : kif b c false = (b && c) := by cases b <;> rfl
theorem kifB_ft : kif b false c = (!b && c) := by cases b <;> rfl
theorem kifB_tt : kif b c true = (!b || c) := by cases b <;> rfl
end
section
variable {call : CallT} {pure : FuncId → Bool} {n k : Nat} {c : Bool}
theorem kif_bool {a b : Bool} : kif c (V.bool a) (V.bool b) = V.bool (kif c a b) := by cases c <;> rfl
theorem kif_int {i : IntKind} {a b : Int} : kif c (V.int i a) (V.int i b) = V.int i (kif c a b) := by cases c <;> rfl
theorem mergeL {a b : V} {l m : List V} : kif c (a :: l) (b :: m) = kif c a b :: kif c l m := by cases c <;> rfl
theorem mergeV {v w : V} : kif c (some (v, Eff.new [])) (some (w, Eff.new [])) = some (kif c v w, Eff.new []) := by cases c <;> rfl
theorem mergeS {f g : List V} {H : Heap} {a b : Bool} : kif c (some (Ex.normal, (⟨f, H, a⟩ : St))) (some (Ex.normal, (⟨g, H, b⟩ : St))) = some (Ex.normal, (⟨kif c f g, H, kif c a b⟩ : St)) := by cases c <;> rfl
theorem mergeRs {a b d e : Bool} : kif c (some (V.bool a, ([] : Heap), d)) (some (V.bool b, ([] : Heap), e)) = some (V.bool (kif c a b), [], kif c d e) := by cases c <;> rfl
theorem kSeq_kif {b : C} {x y : Option (Ex × St)} : kSeq call pure n k b (kif c x y) = kif c (kSeq call pure n k b x) (kSeq call pure n k b y) := by cases c <;> rfl
theorem kBlk_kif {i : Nat} {x y : Option (Ex × St)} : kBlk i (kif c x y) = kif c (kBlk i x) (kBlk i y) := by cases c <;> rfl
theorem kPost_kif {pre : St → Option St} {f : St → Option (Ex × St)} {x y : Option (Ex × St)} : kPost pre f k (kif c x y) = kif c (kPost pre f k x) (kPost pre f k y) := by cases c <;> rfl
theorem kNext_kif {pre : St → Option St} {x y : Option (Ex × St)} : kNext pre (kif c x y) = kif c (kNext pre x) (kNext pre y) := by cases c <;> rfl
theorem kFin_kif {rs : List Rv} {x y : Option (Ex × St)} : kFin n rs (kif c x y) = kif c (kFin n rs x) (kFin n rs y) := by cases c <;> rfl
theorem kReg_kif {x y : Option St} : kReg (kif c x y) = kif c (kReg x) (kReg y) := by cases c <;> rfl
theorem kOps_kif {os : List O} {x y : Option (St × Bool)} : kOps call pure os (kif c x y) = kif c (kOps call pure os x) (kOps call pure os y) := by cases c <;> rfl
theorem kO_kif {d : Option Nat} {s : St} {x y : Option (V × Eff)} : kO d s (kif c x y) = kif c (kO d s x) (kO d s y) := by cases c <;> rfl
theorem kG_kif {H : Heap} {x y : Option (V × Eff)} : kG H (kif c x y) = kif c (kG H x) (kG H y) := by cases c <;> rfl
theorem kDrw_kif {ops : List O} {anc : List Nat} {x y : Option (St × List Lg)} : kDrw ops anc (kif c x y) = kif c (kDrw ops anc x) (kDrw ops anc y) := by cases c <;> rfl
theorem kW_kif {z : Lg} {x y : Option (St × List Lg)} : kW z (kif c x y) = kif c (kW z x) (kW z y) := by cases c <;> rfl
theorem kOpsW_kif {i : Nat} {d : Option Nat} {bs : List Nat} {os : List O} {s : St} {x y : Option (V × Eff)} : kOpsW call pure i d bs os s (kif c x y) = kif c (kOpsW call pure i d bs os s x) (kOpsW call pure i d bs os s y) := by cases c <;> rfl
theorem kRet_kif {H : Heap} {fs : List (Nat × Nat)} {x y : Option (V × Heap × Bool)} : kRet H fs (kif c x y) = kif c (kRet H fs x) (kRet H fs y) := by cases c <;> rfl
theorem map_kif {α β : Type} {g : α → β} {x y : Option α} : Option.map g (kif c x y) = kif c (Option.map g x) (Option.map g y) := by cases c <;> rfl
theorem bind_kif {α β : Type} {g : α → Option β} {x y : Option α} : Option.bind (kif c x y) g = kif c (Option.bind x g) (Option.bind y g) := by cases c <;> rfl
theorem kWant_t {i : I} {fr : List V} {H : Heap} : kWant call pure i fr H true (.bool c) = kifg c (kG H (execI call pure fr H i)) (some (.tup [], .new [])) := by cases c <;> rfl
theorem kWant_f {i : I} {fr : List V} {H : Heap} : kWant call pure i fr H false (.bool c) = kifg c (some (.tup [], .new [])) (kG H (execI call pure fr H i)) := by cases c <;> rfl
theorem kWant_kif {i : I} {fr : List V} {H : Heap} {b : Bool} {x y : V} : kWant call pure i fr H b (kif c x y) = kif c (kWant call pure i fr H b x) (kWant call pure i fr H b y) := by cases c <;> rfl
/-- a test of which the bool is known to be reduced -/
def kc (call : CallT) (pure : FuncId → Bool) (n k : Nat) (a b : C) (s : St) (c : Bool) : Option (Ex × St) := kif c (execC call pure n k a s) (execC call pure n k b s)
theorem kCond_kc {a b : C} {s : St} : kCond call pure n k a b s (.bool c) = kc call pure n k a b s c := by cases c <;> rfl
theorem kc_kif {a b : C} {s : St} : kc call pure n k a b s c = kif c (execC call pure n k a s) (execC call pure n k b s) := rfl
/-- one of two values -/
def kPick (v w : V) : V → Option (V × Eff)
  | .bool b => some (kif b v w, .new [])
  | _ => none
theorem execI_pick {fr : List V} {H : Heap} {x a b : Opd} : execI call pure fr H (.pick x a b) = kPick (ev fr a) (ev fr b) (ev fr x) := by
  simp only [execI]
  cases ev fr x <;> try rfl
  rename_i b; cases b <;> rfl
theorem kPick_bool {v w : V} : kPick v w (.bool c) = some (kifg c v w, .new []) := rfl
theorem kPick_kif {v w x y : V} : kPick v w (kif c x y) = kif c (kPick v w x) (kPick v w y) := by cases c <;> rfl
/-- the block that is looked at -/
def kRd : V → List Nat
  | .ptr b _ _ _ => [b]
  | _ => []
theorem rdB_ld {fr : List V} {m : Option Nat} {x : Opd} : I.rdB fr (.ld m x) = kRd (ev fr x) := by
  simp only [I.rdB]; cases ev fr x <;> rfl
theorem kRd_ptr {b L i o : Nat} : kRd (.ptr b L i o) = [b] := rfl
theorem kRd_tptr {cs : List V} {o : Nat} : kRd (.tptr cs o) = [] := rfl
theorem kRd_tup {cs : List V} : kRd (.tup cs) = [] := rfl
theorem kRd_kif {x y : V} : kRd (kif c x y) = kif c (kRd x) (kRd y) := by cases c <;> rfl
theorem kOpsW_bs {i : Nat} {d : Option Nat} {a b : List Nat} {os : List O} {s : St} {x : Option (V × Eff)} : kOpsW call pure i d (kif c a b) os s x = kif c (kOpsW call pure i d a os s x) (kOpsW call pure i d b os s x) := by cases c <;> rfl
/-! Elements of slices. -/
def kIadr (z : Nat) (x i : V) : Option (V × Eff) := execI (fun _ _ _ => none) (fun _ => true) [] [] (.iadr none z (.c x) (.c i))
theorem execI_iadr {fr : List V} {H : Heap} {z : Nat} {x i : Opd} : execI call pure fr H (.iadr none z x i) = kIadr z (ev fr x) (ev fr i) := rfl
theorem kIadr_none {z : Nat} {x i : V} : kIadr z x i = match i with
    | .int _ n => if n < 0 then none else match x with
      | .sl z' b L o m => if z' = z && n < m then some (.ptr b L (o + n.toNat) 0, .new []) else none
      | .tsl z' es => if z' = z then (es[n.toNat]?).map fun e => (.tptr e 0, .new []) else none
      | _ => none
    | _ => none := by
  unfold kIadr execI
  cases i <;> try rfl
  cases x <;> rfl
theorem kIadr_sl {z b L o m : Nat} {i : IntKind} {n : Int} : kIadr z (.sl z b L o m) (.int i n) = kif (decide (n < 0)) none (kif (decide ((m : Int) ≤ n)) none (some (.ptr b L (o + n.toNat) 0, .new []))) := by
  rw [kIadr_none]
  by_cases h0 : n < 0
  · simp [h0, kif]
  · by_cases h1 : (m : Int) ≤ n
    · have h2 : ¬ n < (m : Int) := by omega
      simp [h0, h1, h2, kif]
    · have h2 : n < (m : Int) := by omega
      simp [h0, h1, h2, kif]
/-- a slice that is read -/
def LS (z : Nat) (v : V) : Prop := v = .nils ∨ ∃ es, v = .tsl z es
def rowsV : V → List (List V)
  | .tsl _ es => es
  | _ => []
def row (v : V) (i : Nat) : List V := (rowsV v).getD i []
theorem kIadr_LS {z : Nat} {v : V} {i : IntKind} {n : Int} (h : LS z v) : kIadr z v (.int i n) = kif (decide (n < 0)) none (kif (decide ((lenV v : Int) ≤ n)) none (some (.tptr (row v n.toNat) 0, .new []))) := by
  rw [kIadr_none]
  rcases h with rfl | ⟨es, rfl⟩
  · by_cases h0 : n < 0
    · simp [h0, kif]
    · have h1 : 0 ≤ n := by omega
      simp [h0, h1, lenV, kif]
  · by_cases h0 : n < 0
    · simp [h0, kif]
    · by_cases h1 : (es.length : Int) ≤ n
      · have h2 : es[n.toNat]? = none := List.getElem?_eq_none (by omega)
        simp [h0, h1, h2, lenV, kif]
      · have h2 : n.toNat < es.length := by omega
        simp [h0, h1, h2, lenV, kif, row, rowsV]
section
variable {z : Nat} {v : V} (h : LS z v)
include h
theorem LS.tree : v.tree = true := by rcases h with rfl | ⟨es, rfl⟩ <;> rfl
theorem LS.cell : v.cell = true := by rcases h with rfl | ⟨es, rfl⟩ <;> rfl
theorem LS.lst : v.lst = true := by rcases h with rfl | ⟨es, rfl⟩ <;> rfl
theorem LS.all : v.cell = true ∧ v.refs = [] ∧ (∀ g, v.ren g = some v) ∧ kLen false v = some (.int .i64 (lenV v), .new []) ∧ (∀ H, v.snap1 H = some (v, [])) ∧ ∀ H, v.snap H = some (v, []) :=
  ⟨h.cell, refs_tree h.tree, fun g => ren_tree h.tree, kLen_lst h.lst, fun H => snap1_tree h.tree, fun H => snap_tree h.tree⟩
end
def kIdxs : V → V → Option (V × Eff)
  | .str s, .int _ n => if n < 0 then none else (s[n.toNat]?).map fun b => (.int .u8 b.toNat, .new [])
  | _, _ => none
theorem execI_idxs {fr : List V} {H : Heap} {x i : Opd} : execI call pure fr H (.idxs x i) = kIdxs (ev fr x) (ev fr i) := by
  simp only [execI]
  cases ev fr x <;> cases ev fr i <;> rfl
theorem kIdxs_str {s : ByteArray} {i : IntKind} {n : Int} : kIdxs (.str s) (.int i n) = kif (decide (n < 0)) none (kif (decide ((s.size : Int) ≤ n)) none (some (.int .u8 (s[n.toNat]?.getD 0).toNat, .new []))) := by
  simp only [kIdxs]
  by_cases h0 : n < 0
  · simp [h0, kif]
  · by_cases h1 : (s.size : Int) ≤ n
    · have h2 : s[n.toNat]? = none := by rw [getElem?_neg]; omega
      simp [h0, h1, h2, kif]
    · have h3 : n.toNat < s.size := by omega
      have h2 : s[n.toNat]? = some s[n.toNat] := getElem?_pos _ _ _
      simp [h0, h1, h2, kif]
/-! Slots by eights. -/
section
variable {α : Type}
theorem gt0 {a0 x : α} {l : List α} : List.getD (a0 :: l) 0 x = a0 := rfl
theorem st0 {a0 x : α} {l : List α} : List.set (a0 :: l) 0 x = x :: l := rfl
theorem gt1 {a0 a1 x : α} {l : List α} : List.getD (a0 :: a1 :: l) 1 x = a1 := rfl
theorem st1 {a0 a1 x : α} {l : List α} : List.set (a0 :: a1 :: l) 1 x = a0 :: x :: l := rfl
theorem gt2 {a0 a1 a2 x : α} {l : List α} : List.getD (a0 :: a1 :: a2 :: l) 2 x = a2 := rfl
theorem st2 {a0 a1 a2 x : α} {l : List α} : List.set (a0 :: a1 :: a2 :: l) 2 x = a0 :: a1 :: x :: l := rfl
theorem gt3 {a0 a1 a2 a3 x : α} {l : List α} : List.getD (a0 :: a1 :: a2 :: a3 :: l) 3 x = a3 := rfl
theorem st3 {a0 a1 a2 a3 x : α} {l : List α} : List.set (a0 :: a1 :: a2 :: a3 :: l) 3 x = a0 :: a1 :: a2 :: x :: l := rfl
theorem gt4 {a0 a1 a2 a3 a4 x : α} {l : List α} : List.getD (a0 :: a1 :: a2 :: a3 :: a4 :: l) 4 x = a4 := rfl
theorem st4 {a0 a1 a2 a3 a4 x : α} {l : List α} : List.set (a0 :: a1 :: a2 :: a3 :: a4 :: l) 4 x = a0 :: a1 :: a2 :: a3 :: x :: l := rfl
theorem gt5 {a0 a1 a2 a3 a4 a5 x : α} {l : List α} : List.getD (a0 :: a1 :: a2 :: a3 :: a4 :: a5 :: l) 5 x = a5 := rfl
theorem st5 {a0 a1 a2 a3 a4 a5 x : α} {l : List α} : List.set (a0 :: a1 :: a2 :: a3 :: a4 :: a5 :: l) 5 x = a0 :: a1 :: a2 :: a3 :: a4 :: x :: l := rfl
theorem gt6 {a0 a1 a2 a3 a4 a5 a6 x : α} {l : List α} : List.getD (a0 :: a1 :: a2 :: a3 :: a4 :: a5 :: a6 :: l) 6 x = a6 := rfl
theorem st6 {a0 a1 a2 a3 a4 a5 a6 x : α} {l : List α} : List.set (a0 :: a1 :: a2 :: a3 :: a4 :: a5 :: a6 :: l) 6 x = a0 :: a1 :: a2 :: a3 :: a4 :: a5 :: x :: l := rfl
theorem gt7 {a0 a1 a2 a3 a4 a5 a6 a7 x : α} {l : List α} : List.getD (a0 :: a1 :: a2 :: a3 :: a4 :: a5 :: a6 :: a7 :: l) 7 x = a7 := rfl
theorem st7 {a0 a1 a2 a3 a4 a5 a6 a7 x : α} {l : List α} : List.set (a0 :: a1 :: a2 :: a3 :: a4 :: a5 :: a6 :: a7 :: l) 7 x = a0 :: a1 :: a2 :: a3 :: a4 :: a5 :: a6 :: x :: l := rfl
theorem gt8 {a0 a1 a2 a3 a4 a5 a6 a7 x : α} {l : List α} {n : Nat} : List.getD (a0 :: a1 :: a2 :: a3 :: a4 :: a5 :: a6 :: a7 :: l) (n + 8) x = List.getD l n x := rfl
theorem st8 {a0 a1 a2 a3 a4 a5 a6 a7 x : α} {l : List α} {n : Nat} : List.set (a0 :: a1 :: a2 :: a3 :: a4 :: a5 :: a6 :: a7 :: l) (n + 8) x = a0 :: a1 :: a2 :: a3 :: a4 :: a5 :: a6 :: a7 :: List.set l n x := rfl
end
end
/-- returns false -/
def RtF (slot : Nat) (r : Ex × St) : Prop := r.1 = .ret ∧ r.2.fr.getD slot .undef = .bool false
theorem RtF_ret {slot : Nat} {s : St} : RtF slot (.ret, s) = (s.fr.getD slot .undef = .bool false) := by simp [RtF]
theorem RtF_exit {slot i : Nat} {s : St} : RtF slot (.exit i, s) = False := by simp [RtF]
theorem RtF_eq {slot : Nat} {r : Ex × St} (h : RtF slot r) : ∃ fr H d, r = (.ret, ⟨fr, H, d⟩) ∧ fr.getD slot .undef = .bool false := by
  obtain ⟨e, fr, H, d⟩ := r
  obtain ⟨h1, h2⟩ := h
  dsimp only at h1 h2
  subst h1
  exact ⟨fr, H, d, rfl, h2⟩
/-- leaves -/
def Nn (x : Option (Ex × St)) : Prop := ∃ r, x = some r ∧ r.1 ≠ .normal
theorem Nn_exit {i : Nat} {s : St} : Nn (some (.exit i, s)) = True := by simp [Nn]
theorem Nn_ret {s : St} : Nn (some (.ret, s)) = True := by simp [Nn]
theorem Nn_kif {c : Bool} {x y : Option (Ex × St)} : Nn (kif c x y) = ((c = true → Nn x) ∧ (c = false → Nn y)) := by cases c <;> simp [kif]
abbrev Res := Option (V × Heap × Bool)
/-- returns a bool that holds exactly if P -/
def RtB (P : Prop) (x : Res) : Prop := ∃ b d, x = some (.bool b, [], d) ∧ (b = true ↔ P)
/-- returns a bool -/
def RtT (x : Res) : Prop := ∃ b d, x = some (.bool b, [], d)
/-- returns v -/
def RtV (v : V) (x : Res) : Prop := ∃ d, x = some (v, [], d)
section
variable {P c : Prop} [Decidable c] {x y : Res} {v w : V} {b d : Bool} {H : Heap}
theorem RtB_some : RtB P (some (.bool b, [], d)) = (b = true ↔ P) := by
  simp [RtB]
theorem RtB_true : RtB P (some (.bool true, [], d)) = P := by simp [RtB_some]
theorem RtB_false : RtB P (some (.bool false, [], d)) = ¬ P := by simp [RtB_some]
theorem RtB_ite : RtB P (if c then x else y) = ((c → RtB P x) ∧ (¬ c → RtB P y)) := by by_cases h : c <;> simp [h]
theorem RtT_some : RtT (some (.bool b, [], d)) = True := by simp [RtT]
theorem RtT_ite : RtT (if c then x else y) = ((c → RtT x) ∧ (¬ c → RtT y)) := by by_cases h : c <;> simp [h]
theorem RtV_some : RtV v (some (w, [], d)) = (w = v) := by simp [RtV]
theorem RtV_ite : RtV v (if c then x else y) = ((c → RtV v x) ∧ (¬ c → RtV v y)) := by by_cases h : c <;> simp [h]
theorem RtB_kif {c : Bool} : RtB P (kif c x y) = ((c = true → RtB P x) ∧ (c = false → RtB P y)) := by cases c <;> simp [kif]
theorem RtT_kif {c : Bool} : RtT (kif c x y) = ((c = true → RtT x) ∧ (c = false → RtT y)) := by cases c <;> simp [kif]
theorem RtV_kif {c : Bool} : RtV v (kif c x y) = ((c = true → RtV v x) ∧ (c = false → RtV v y)) := by cases c <;> simp [kif]
theorem RtB.t (h : RtB P x) : RtT x := by obtain ⟨b, d, h, _⟩ := h; exact ⟨b, d, h⟩
end
/-- the end by a return of false -/
theorem fin_false {fr : List V} {slot : Nat} {d : Bool} (h : fr.getD slot .undef = .bool false) : finish 0 [.t slot] ⟨fr, [], d⟩ = some (.bool false, [], d) := fin_tree rfl h rfl
theorem fin_ret {fr : List V} {slot : Nat} {H : Heap} {d : Bool} (h : fr.getD slot .undef = .bool false) : kFin 0 [.t slot] (some (.ret, ⟨fr, H, d⟩)) = some (.bool false, [], d) := fin_tree rfl h rfl
/-- loops of which only the ends matter: a round goes on with the next state's property, or leaves -/
def Go1 (pre : St → Option St) (I : St → Prop) (Q : Ex × St → Prop) (x : Option (Ex × St)) : Prop := (∃ t', kNext pre x = some t' ∧ I t') ∨ ∃ r, x = some r ∧ r.1 ≠ .normal ∧ Q r
theorem Go1_ite {pre : St → Option St} {I : St → Prop} {Q : Ex × St → Prop} {c : Prop} [Decidable c] {x y : Option (Ex × St)} : Go1 pre I Q (if c then x else y) = ((c → Go1 pre I Q x) ∧ (¬ c → Go1 pre I Q y)) := by by_cases h : c <;> simp [h]
theorem Go1_kif {pre : St → Option St} {I : St → Prop} {Q : Ex × St → Prop} {c : Bool} {x y : Option (Ex × St)} : Go1 pre I Q (kif c x y) = ((c = true → Go1 pre I Q x) ∧ (c = false → Go1 pre I Q y)) := by cases c <;> simp [kif]
theorem Go1_normal {pre : St → Option St} {I : St → Prop} {Q : Ex × St → Prop} {s : St} : Go1 pre I Q (some (.normal, s)) = ∃ t', pre s = some t' ∧ I t' := by simp [Go1, kNext]
theorem Go1_ret {pre : St → Option St} {I : St → Prop} {Q : Ex × St → Prop} {s : St} : Go1 pre I Q (some (.ret, s)) = Q (.ret, s) := by simp [Go1, kNext]
theorem Go1_exit {pre : St → Option St} {I : St → Prop} {Q : Ex × St → Prop} {s : St} {i : Nat} : Go1 pre I Q (some (.exit i, s)) = Q (.exit i, s) := by simp [Go1, kNext]
/-- a loop of which a property of the states at its head is known -/
theorem loop_go {pre : St → Option St} {f : St → Option (Ex × St)} {I : Nat → St → Prop} {R : Ex × St → Prop} {N : Nat} (hs : ∀ j t, j < N → I j t → Go1 pre (I (j + 1)) R (f t)) (he : ∀ t, I N t → Nn (f t)) {t0 : St} (h0 : I 0 t0) :
    (∃ t, I N t ∧ ∀ s M, N < M → pre s = some t0 → iter pre f M s = f t) ∨ (∃ r, R r ∧ ∀ s M, N < M → pre s = some t0 → iter pre f M s = some r) := by
  have := iter_inv (pre := pre) (f := f) I (fun r => (∃ t, I N t ∧ some r = f t) ∨ R r) N (fun j t hj hI => by
    rcases hs j t hj hI with h | ⟨r, h1, h2, h3⟩
    · exact .inl h
    · exact .inr ⟨r, h1, h2, .inr h3⟩) (fun t hI => by
    obtain ⟨r, h1, h2⟩ := he t hI
    exact ⟨r, h1, h2, .inl ⟨t, hI, h1.symm⟩⟩) N 0 t0 (by omega) h0
  obtain ⟨r, h1, h2⟩ := this
  rcases h1 with ⟨t, h3, h4⟩ | h3
  · exact .inl ⟨t, h3, fun s M hM hp => by rw [← h4]; exact h2 s M hM hp⟩
  · exact .inr ⟨r, h3, h2⟩
/-- the same, the states being known -/
theorem loop_to {pre : St → Option St} {f : St → Option (Ex × St)} {T : Nat → St} {R : Ex × St → Prop} {N : Nat} (hs : ∀ j, j < N → Go1 pre (fun t => t = T (j + 1)) R (f (T j))) (he : Nn (f (T N))) :
    (∀ s M, N < M → pre s = some (T 0) → iter pre f M s = f (T N)) ∨ (∃ r, R r ∧ ∀ s M, N < M → pre s = some (T 0) → iter pre f M s = some r) := by
  rcases loop_go (I := fun j t => t = T j) (R := R) (N := N) (pre := pre) (f := f) (fun j t hj h => by subst h; exact hs j hj) (fun t h => by subst h; exact he) rfl with ⟨t, h1, h2⟩ | h
  · subst h1; exact .inl h2
  · exact .inr h
/-- the same, and what each round has found -/
theorem loop_ok {pre : St → Option St} {f : St → Option (Ex × St)} {T : Nat → St} {ok : Nat → Prop} {R : Ex × St → Prop} {N : Nat} (hs : ∀ j, j < N → Go1 pre (fun t => t = T (j + 1) ∧ ok j) R (f (T j))) (he : Nn (f (T N))) :
    ((∀ j, j < N → ok j) ∧ ∀ s M, N < M → pre s = some (T 0) → iter pre f M s = f (T N)) ∨ (∃ r, R r ∧ ∀ s M, N < M → pre s = some (T 0) → iter pre f M s = some r) := by
  rcases loop_go (I := fun j t => t = T j ∧ ∀ i, i < j → ok i) (R := R) (N := N) (pre := pre) (f := f) (fun j t hj h => by
    obtain ⟨rfl, h⟩ := h
    rcases hs j hj with ⟨t', h1, h2, h3⟩ | h1
    · refine .inl ⟨t', h1, h2, fun i hi => ?_⟩
      rcases Nat.lt_or_eq_of_le (Nat.le_of_lt_succ hi) with h4 | rfl
      · exact h i h4
      · exact h3
    · exact .inr h1) (fun t h => by obtain ⟨rfl, _⟩ := h; exact he) ⟨rfl, fun i hi => absurd hi (by omega)⟩ with ⟨t, ⟨rfl, h0⟩, h2⟩ | h
  · exact .inl ⟨h0, h2⟩
  · exact .inr h
theorem ex_eq2 {s t : St} {P : Prop} : (∃ t', some s = some t' ∧ t' = t ∧ P) = (s = t ∧ P) := by simp
theorem ex_eq {s t : St} : (∃ t', some s = some t' ∧ t' = t) = (s = t) := by simp
end Go.AM
