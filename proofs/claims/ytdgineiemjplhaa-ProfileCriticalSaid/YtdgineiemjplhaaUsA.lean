/- Flows and schedules as data; the small functions. -/
import Derived.Test.YtdgineiemjplhaaAmPu
import Derived.Test.YtdgineiemjplhaaAmTy
set_option linter.unusedVariables false
set_option linter.unusedSimpArgs false
namespace Go.AM.Ytdgineiemjplhaa
open Go Go.AM
set_option maxRecDepth 100000
set_option maxHeartbeats 0
structure Arc where
  fr : Int
  to : Int
  lat : Int
  di : Int
structure Rs where
  kd : Int
  ix : Int
  wd : Int
  ct : Int
structure Nd where
  rs : Int
  bu : Int
def Arc.vs (a : Arc) : List V := [.int .i64 a.fr, .int .i64 a.to, .int .i64 a.lat, .int .i64 a.di]
def Rs.vs (a : Rs) : List V := [.int .i64 a.kd, .int .i64 a.ix, .int .i64 a.wd, .int .i64 a.ct]
def Nd.vs (a : Nd) : List V := [.int .i64 a.rs, .int .i64 a.bu]
def ivs (n : Int) : List V := [.int .i64 n]
structure Fl where
  ins : Int
  par : Int
  loop : Bool
  va : V
  vr : V
  vn : V
  A : List Arc
  R : List Rs
  N : List Nd
def Fl.v (f : Fl) : V := .agg [.int .i64 f.ins, .int .i64 f.par, .bool f.loop, f.va, f.vr, f.vn]
structure Fl.Ok (f : Fl) : Prop where
  a : Sl 4 (f.A.map Arc.vs) f.va
  r : Sl 4 (f.R.map Rs.vs) f.vr
  n : Sl 2 (f.N.map Nd.vs) f.vn
structure Sc where
  ii : Int
  dep : Int
  vs : V
  vp : V
  vu : V
  S : List Int
  P : List Int
  U : List Int
def Sc.v (s : Sc) : V := .agg [.int .i64 s.ii, .int .i64 s.dep, s.vs, s.vp, s.vu]
structure Sc.Ok (x : Sc) : Prop where
  s : Sl 1 (x.S.map ivs) x.vs
  p : Sl 1 (x.P.map ivs) x.vp
  u : Sl 1 (x.U.map ivs) x.vu
theorem puT (f : FuncId) (h : (f == 13 || f == 14 || f == 24 || f == 25 || f == 35) = false) : pu f = true := by rw [pu, h]; rfl
theorem callV_pu {call : CallT} {H : Heap} {f : FuncId} {args : List V} (h : (f == 13 || f == 14 || f == 24 || f == 25 || f == 35) = false) : callV call pu H f args = kSnap call H f (snapA H args) := callV_pure (puT f h)
def retF (slot : Nat) : Option (Ex × St) → Prop
  | some (.ret, s) => s.fr.getD slot .undef = .bool false
  | _ => False
theorem retF_ret {slot : Nat} {s : St} : retF slot (some (.ret, s)) = (s.fr.getD slot .undef = .bool false) := rfl
theorem retF_some {slot : Nat} {x : Option (Ex × St)} (h : retF slot x) : ∃ s, x = some (.ret, s) ∧ s.fr.getD slot .undef = .bool false := by
  cases x with
  | none => cases h
  | some r =>
    obtain ⟨e, s⟩ := r
    cases e with
    | ret => exact ⟨s, rfl, h⟩
    | normal => cases h
    | exit id => cases h
theorem loop_all {pre : St → Option St} {f : St → Option (Ex × St)} (T : Nat → St) (ok : Nat → Prop) (n slot : Nat) (e : Ex × St) (hs : ∀ j, j < n → ok j → kNext pre (f (T j)) = some (T (j + 1)))
    (hr : ∀ j, j < n → ¬ ok j → retF slot (f (T j))) (he : f (T n) = some e) (hn : e.1 ≠ .normal) :
    ((∀ j, j < n → ok j) ∧ ∀ s M, n < M → pre s = some (T 0) → iter pre f M s = some e) ∨
    ((¬ ∀ j, j < n → ok j) ∧ ∃ s', s'.fr.getD slot .undef = .bool false ∧ ∀ s M, n < M → pre s = some (T 0) → iter pre f M s = some (.ret, s')) := by
  have key : ∀ (m j : Nat), j + m = n → (∀ i, i < j → ok i) → ((∀ j, j < n → ok j) ∧ ∀ s M, m < M → pre s = some (T j) → iter pre f M s = some e) ∨
    ((¬ ∀ j, j < n → ok j) ∧ ∃ s', s'.fr.getD slot .undef = .bool false ∧ ∀ s M, m < M → pre s = some (T j) → iter pre f M s = some (.ret, s')) := by
    intro m
    induction m with
    | zero =>
      intro j hj hok
      obtain rfl : j = n := hj
      refine .inl ⟨hok, fun s M hM h => ?_⟩
      obtain ⟨M, rfl⟩ : ∃ M', M = M' + 1 := ⟨M - 1, by omega⟩
      exact iter_end h he hn
    | succ m ih =>
      intro j hj hok
      by_cases hj' : ok j
      · have := ih (j + 1) (by omega) (fun i hi => by
          rcases Nat.lt_or_eq_of_le (Nat.le_of_lt_succ hi) with h | rfl
          · exact hok i h
          · exact hj')
        rcases this with ⟨h1, h2⟩ | ⟨h1, s', h2, h3⟩
        · refine .inl ⟨h1, fun s M hM h => ?_⟩
          obtain ⟨M, rfl⟩ : ∃ M', M = M' + 1 := ⟨M - 1, by omega⟩
          exact iter_go h (hs j (by omega) hj') fun s' hs' => h2 s' M (by omega) hs'
        · refine .inr ⟨h1, s', h2, fun s M hM h => ?_⟩
          obtain ⟨M, rfl⟩ : ∃ M', M = M' + 1 := ⟨M - 1, by omega⟩
          exact iter_go h (hs j (by omega) hj') fun s' hs' => h3 s' M (by omega) hs'
      · obtain ⟨s', h1, h2⟩ := retF_some (hr j (by omega) hj')
        refine .inr ⟨fun h => hj' (h j (by omega)), s', h2, fun s M hM h => ?_⟩
        obtain ⟨M, rfl⟩ : ∃ M', M = M' + 1 := ⟨M - 1, by omega⟩
        exact iter_end h h1 (by simp)
  exact key n 0 (by omega) (by omega)
/-- what is returned at once -/
theorem fin_ret {rs : List Rv} {s : St} {m : Nat} {b : Bool} (hr : rs = [.t m]) (h : s.fr.getD m .undef = .bool b) : kFin 0 rs (some (.ret, s)) = some (.bool b, [], s.d) := by
  obtain ⟨fr, H, d⟩ := s
  exact fin_tree hr h rfl
theorem fin_false {rs : List Rv} {s : St} {m : Nat} (hr : rs = [.t m]) (h : s.fr.getD m .undef = .bool false) : kFin 0 rs (some (.ret, s)) = some (.bool false, [], s.d) := fin_ret hr h
attribute [simp] retF_ret
/-- returns whether P holds -/
def RB (P : Prop) (x : Option (V × Heap × Bool)) : Prop := ∃ b d, x = some (.bool b, [], d) ∧ (b = true ↔ P)
theorem RB_true {P : Prop} {d : Bool} (h : P) : RB P (some (.bool true, [], d)) := ⟨true, d, rfl, by simp [h]⟩
theorem RB_false {P : Prop} {d : Bool} (h : ¬ P) : RB P (some (.bool false, [], d)) := ⟨false, d, rfl, by simp [h]⟩
theorem RB_ret {P : Prop} {rs : List Rv} {s : St} {m : Nat} (hr : rs = [.t m]) (h : s.fr.getD m .undef = .bool false) (hp : ¬ P) : RB P (kFin 0 rs (some (.ret, s))) := by
  rw [fin_false hr h]; exact RB_false hp
def btw (lo n hi : Int) : Bool := decide (lo ≤ n ∧ n ≤ hi)
theorem btw_iff {lo n hi : Int} : btw lo n hi = true ↔ lo ≤ n ∧ n ≤ hi := by simp [btw]
theorem d31 (k : Nat) (n lo hi : Int) : callF tbl pu (k + 1) 31 [.int .i64 n, .int .i64 lo, .int .i64 hi] [] = some (.bool (btw lo n hi), [], false) := by
  unfold btw
  rw [callF_eq tbl31, Ytdgineiemjplhaa.c31]
  by_cases h1 : lo ≤ n
  · by_cases h2 : n ≤ hi <;> simp [h1, h2]
  · simp [h1]
theorem d48 (k : Nat) (n lo hi : Int) : callF tbl pu (k + 1) 48 [.int .i64 n, .int .i64 lo, .int .i64 hi] [] = some (.bool (btw lo n hi), [], false) := by
  unfold btw
  rw [callF_eq tbl48, Ytdgineiemjplhaa.c48]
  by_cases h1 : lo ≤ n
  · by_cases h2 : n ≤ hi <;> simp [h1, h2]
  · simp [h1]
section
variable (k : Nat) (ins par : Int) (loop : Bool) (va vr vn : V) (ha : va.tree = true) (hr : vr.tree = true) (hn : vn.tree = true)
include ha hr hn
theorem d15 : callF tbl pu (k + 1) 15 [.agg [.int .i64 ins, .int .i64 par, .bool loop, va, vr, vn]] [] = some (.int .i64 (IntKind.i64.wrap (ins + par)), [], false) := by
  have ka := V.cell_of_tree ha
  have kr := V.cell_of_tree hr
  have kn := V.cell_of_tree hn
  rw [callF_eq tbl15, Ytdgineiemjplhaa.c15]
  simp [ka, kr, kn]
theorem d49 : callF tbl pu (k + 1) 49 [.agg [.int .i64 ins, .int .i64 par, .bool loop, va, vr, vn]] [] = some (.int .i64 (IntKind.i64.wrap (ins + par)), [], false) := by
  have ka := V.cell_of_tree ha
  have kr := V.cell_of_tree hr
  have kn := V.cell_of_tree hn
  rw [callF_eq tbl49, Ytdgineiemjplhaa.c49]
  simp [ka, kr, kn]
theorem d16 : callF tbl pu (k + 1) 16 [.agg [.int .i64 ins, .int .i64 par, .bool loop, va, vr, vn]] [] = some (.int .i64 (IntKind.i64.wrap (IntKind.i64.wrap (ins + par) + 1)), [], false) := by
  have ka := V.cell_of_tree ha
  have kr := V.cell_of_tree hr
  have kn := V.cell_of_tree hn
  rw [callF_eq tbl16, Ytdgineiemjplhaa.c16]
  simp [ka, kr, kn]
theorem d50 : callF tbl pu (k + 1) 50 [.agg [.int .i64 ins, .int .i64 par, .bool loop, va, vr, vn]] [] = some (.int .i64 (IntKind.i64.wrap (IntKind.i64.wrap (ins + par) + 1)), [], false) := by
  have ka := V.cell_of_tree ha
  have kr := V.cell_of_tree hr
  have kn := V.cell_of_tree hn
  rw [callF_eq tbl50, Ytdgineiemjplhaa.c50]
  simp [ka, kr, kn]
end
/-- the flow in memory of its own -/
def bxF (ins par : Int) (loop : Bool) (va vr vn : V) : Blk := ⟨6, [[.int .i64 ins, .int .i64 par, .bool loop, va, vr, vn]], 0, true, [V.int .i64 ins, .int .i64 par, .bool loop, va, vr, vn].all V.flat⟩
theorem awakeK (k : Nat) : callF tbl pu (k + 40) 4 [] [] = some (.bool true, [], false) := by kernel_rfl
end Go.AM.Ytdgineiemjplhaa
