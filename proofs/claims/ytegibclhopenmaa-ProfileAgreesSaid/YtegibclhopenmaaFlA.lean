/- Slices that are read, by their rows and cells; what a function returns, as far as it is a bool. -/
import Derived.Test.YtegibclhopenmaaAmPu
import Derived.Test.YtegibclhopenmaaAmTy
set_option linter.unusedVariables false
set_option linter.unusedSimpArgs false
namespace Go.AM.Ytegibclhopenmaa
open Go Go.AM
set_option maxRecDepth 100000
set_option maxHeartbeats 0
theorem puT (f : FuncId) (h : (f == 20 || f == 21) = false) : pu f = true := by rw [pu, h]; rfl
theorem callV_pu {call : CallT} {H : Heap} {f : FuncId} {args : List V} (h : (f == 20 || f == 21) = false) : callV call pu H f args = kSnap call H f (snapA H args) := callV_pure (puT f h)
def cel (v : V) (i j : Nat) : V := (row v i).getD j .undef
def intV : V → Int
  | .int _ n => n
  | _ => 0
def boolV : V → Bool
  | .bool b => b
  | _ => false
def strV : V → ByteArray
  | .str s => s
  | _ => ⟨#[]⟩
def ic (v : V) (i j : Nat) : Int := intV (cel v i j)
def bc (v : V) (i j : Nat) : Bool := boolV (cel v i j)
def sc (v : V) (i j : Nat) : ByteArray := strV (cel v i j)
/-! What kinds of slices there are, by the facts of their rows. -/
theorem LS22 {v : V} (h : S22 [v]) : LS 1 v := by
  rcases h with h | ⟨es, h, _⟩
  · exact .inl (by simpa using h)
  · exact .inr ⟨es, by simpa using h⟩
theorem LS23 {v : V} (h : S23 [v]) : LS 5 v := by
  rcases h with h | ⟨es, h, _⟩
  · exact .inl (by simpa using h)
  · exact .inr ⟨es, by simpa using h⟩
theorem LS24 {v : V} (h : S24 [v]) : LS 3 v := by
  rcases h with h | ⟨es, h, _⟩
  · exact .inl (by simpa using h)
  · exact .inr ⟨es, by simpa using h⟩
theorem LS88 {v : V} (h : S88 [v]) : LS 5 v := by
  rcases h with h | ⟨es, h, _⟩
  · exact .inl (by simpa using h)
  · exact .inr ⟨es, by simpa using h⟩
theorem LS85 {v : V} (h : S85 [v]) : LS 2 v := by
  rcases h with h | ⟨es, h, _⟩
  · exact .inl (by simpa using h)
  · exact .inr ⟨es, by simpa using h⟩
theorem LS25 {v : V} (h : S25 [v]) : LS 9 v := by
  rcases h with h | ⟨es, h, _⟩
  · exact .inl (by simpa using h)
  · exact .inr ⟨es, by simpa using h⟩
theorem LS28 {v : V} (h : S28 [v]) : LS 5 v := by
  rcases h with h | ⟨es, h, _⟩
  · exact .inl (by simpa using h)
  · exact .inr ⟨es, by simpa using h⟩
abbrev LMAX : Nat := 140737488351232
theorem len22 {v : V} (h : S22 [v]) : lenV v ≤ LMAX := by
  rcases h with h | ⟨es, h, h1, _⟩
  · obtain rfl : v = .nils := by simpa using h
    simp [lenV]
  · obtain rfl : v = .tsl 1 es := by simpa using h
    simp only [lenV, LMAX]; omega
theorem len23 {v : V} (h : S23 [v]) : lenV v ≤ LMAX := by
  rcases h with h | ⟨es, h, h1, _⟩
  · obtain rfl : v = .nils := by simpa using h
    simp [lenV]
  · obtain rfl : v = .tsl 5 es := by simpa using h
    simp only [lenV, LMAX]; omega
theorem len24 {v : V} (h : S24 [v]) : lenV v ≤ LMAX := by
  rcases h with h | ⟨es, h, h1, _⟩
  · obtain rfl : v = .nils := by simpa using h
    simp [lenV]
  · obtain rfl : v = .tsl 3 es := by simpa using h
    simp only [lenV, LMAX]; omega
theorem len88 {v : V} (h : S88 [v]) : lenV v ≤ LMAX := by
  rcases h with h | ⟨es, h, h1, _⟩
  · obtain rfl : v = .nils := by simpa using h
    simp [lenV]
  · obtain rfl : v = .tsl 5 es := by simpa using h
    simp only [lenV, LMAX]; omega
theorem len85 {v : V} (h : S85 [v]) : lenV v ≤ LMAX := by
  rcases h with h | ⟨es, h, h1, _⟩
  · obtain rfl : v = .nils := by simpa using h
    simp [lenV]
  · obtain rfl : v = .tsl 2 es := by simpa using h
    simp only [lenV, LMAX]; omega
theorem len25 {v : V} (h : S25 [v]) : lenV v ≤ LMAX := by
  rcases h with h | ⟨es, h, h1, _⟩
  · obtain rfl : v = .nils := by simpa using h
    simp [lenV]
  · obtain rfl : v = .tsl 9 es := by simpa using h
    simp only [lenV, LMAX]; omega
theorem len28 {v : V} (h : S28 [v]) : lenV v ≤ LMAX := by
  rcases h with h | ⟨es, h, h1, _⟩
  · obtain rfl : v = .nils := by simpa using h
    simp [lenV]
  · obtain rfl : v = .tsl 5 es := by simpa using h
    simp only [lenV, LMAX]; omega
theorem row_mem {z : Nat} {es : List (List V)} {i : Nat} (hi : i < es.length) : row (.tsl z es) i ∈ es := by
  have : row (.tsl z es) i = es[i] := by simp [row, rowsV, hi]
  rw [this]
  exact List.getElem_mem hi
theorem row22 {v : V} (h : S22 [v]) {i : Nat} (hi : i < lenV v) : S3 (row v i) := by
  rcases h with h | ⟨es, h, _, _, h1⟩
  · obtain rfl : v = .nils := by simpa using h
    simp [lenV] at hi
  · obtain rfl : v = .tsl 1 es := by simpa using h
    exact h1 _ (row_mem hi)
theorem row23 {v : V} (h : S23 [v]) {i : Nat} (hi : i < lenV v) : S116 (row v i) := by
  rcases h with h | ⟨es, h, _, _, h1⟩
  · obtain rfl : v = .nils := by simpa using h
    simp [lenV] at hi
  · obtain rfl : v = .tsl 5 es := by simpa using h
    exact h1 _ (row_mem hi)
theorem row24 {v : V} (h : S24 [v]) {i : Nat} (hi : i < lenV v) : S118 (row v i) := by
  rcases h with h | ⟨es, h, _, _, h1⟩
  · obtain rfl : v = .nils := by simpa using h
    simp [lenV] at hi
  · obtain rfl : v = .tsl 3 es := by simpa using h
    exact h1 _ (row_mem hi)
theorem row88 {v : V} (h : S88 [v]) {i : Nat} (hi : i < lenV v) : S100 (row v i) := by
  rcases h with h | ⟨es, h, _, _, h1⟩
  · obtain rfl : v = .nils := by simpa using h
    simp [lenV] at hi
  · obtain rfl : v = .tsl 5 es := by simpa using h
    exact h1 _ (row_mem hi)
theorem row85 {v : V} (h : S85 [v]) {i : Nat} (hi : i < lenV v) : S107 (row v i) := by
  rcases h with h | ⟨es, h, _, _, h1⟩
  · obtain rfl : v = .nils := by simpa using h
    simp [lenV] at hi
  · obtain rfl : v = .tsl 2 es := by simpa using h
    exact h1 _ (row_mem hi)
theorem row25 {v : V} (h : S25 [v]) {i : Nat} (hi : i < lenV v) : S90 (row v i) := by
  rcases h with h | ⟨es, h, _, _, h1⟩
  · obtain rfl : v = .nils := by simpa using h
    simp [lenV] at hi
  · obtain rfl : v = .tsl 9 es := by simpa using h
    exact h1 _ (row_mem hi)
theorem row28 {v : V} (h : S28 [v]) {i : Nat} (hi : i < lenV v) : S70 (row v i) := by
  rcases h with h | ⟨es, h, _, _, h1⟩
  · obtain rfl : v = .nils := by simpa using h
    simp [lenV] at hi
  · obtain rfl : v = .tsl 5 es := by simpa using h
    exact h1 _ (row_mem hi)
def wfI (n : Int) : Prop := -9223372036854775808 ≤ n ∧ n ≤ 9223372036854775807
theorem wf_of {n : Int} (h : (Lit.int .i64 n).wf = true) : wfI n := by
  simp [Lit.wf, IntKind.min, IntKind.max, IntKind.signed, IntKind.bits] at h
  exact h
/-! Rows as literal lists. -/
theorem e22 {v : V} (h : S22 [v]) {i : Nat} (hi : i < lenV v) : row v i = [.int .i64 (ic v i 0)] ∧ wfI (ic v i 0) := by
  obtain ⟨n, h1, h2⟩ := row22 h hi
  have : ic v i 0 = n := by simp [ic, cel, h1, intV]
  rw [this]; exact ⟨h1, wf_of h2⟩
theorem e23 {v : V} (h : S23 [v]) {i : Nat} (hi : i < lenV v) : row v i = [.str (sc v i 0), .int .i64 (ic v i 1), .int .i64 (ic v i 2), .int .i64 (ic v i 3), .int .i64 (ic v i 4)] ∧ (sc v i 0).size ≤ LMAX ∧ wfI (ic v i 1) ∧ wfI (ic v i 2) ∧ wfI (ic v i 3) ∧ wfI (ic v i 4) := by
  obtain ⟨a, b, c, d, e, h1, h2, h3, h4, h5, h6⟩ := flat116 (row23 h hi)
  simp only [sc, ic, cel, h1, List.getD_cons_zero, List.getD_cons_succ, strV, intV]
  exact ⟨trivial, h2, wf_of h3, wf_of h4, wf_of h5, wf_of h6⟩
theorem e24 {v : V} (h : S24 [v]) {i : Nat} (hi : i < lenV v) : row v i = [.str (sc v i 0), .int .i64 (ic v i 1), .bool (bc v i 2)] ∧ (sc v i 0).size ≤ LMAX ∧ wfI (ic v i 1) := by
  obtain ⟨a, b, c, h1, h2, h3⟩ := flat118 (row24 h hi)
  simp only [sc, ic, bc, cel, h1, List.getD_cons_zero, List.getD_cons_succ, strV, intV, boolV]
  exact ⟨trivial, h2, wf_of h3⟩
theorem e88 {v : V} (h : S88 [v]) {i : Nat} (hi : i < lenV v) : row v i = [.int .i64 (ic v i 0), .int .i64 (ic v i 1), cel v i 2, .int .u64 (ic v i 3), .int .i64 (ic v i 4)] ∧ wfI (ic v i 0) ∧ wfI (ic v i 1) ∧ S22 [cel v i 2] ∧ (Lit.int .u64 (ic v i 3)).wf = true ∧ wfI (ic v i 4) := by
  obtain ⟨a, b, c, d, e, h1, h2, h3, h4, h5, h6⟩ := flat100 (row88 h hi)
  simp only [sc, ic, bc, cel, h1, List.getD_cons_zero, List.getD_cons_succ, strV, intV, boolV]
  exact ⟨trivial, wf_of h2, wf_of h3, h4, h5, wf_of h6⟩
theorem e85 {v : V} (h : S85 [v]) {i : Nat} (hi : i < lenV v) : row v i = [.int .i64 (ic v i 0), cel v i 1] ∧ wfI (ic v i 0) ∧ S22 [cel v i 1] := by
  obtain ⟨a, b, h1, h2, h3⟩ := flat107 (row85 h hi)
  simp only [sc, ic, bc, cel, h1, List.getD_cons_zero, List.getD_cons_succ, strV, intV, boolV]
  exact ⟨trivial, wf_of h2, h3⟩
theorem e25 {v : V} (h : S25 [v]) {i : Nat} (hi : i < lenV v) : row v i = [cel v i 0, cel v i 1, .int .i64 (ic v i 2), .int .i64 (ic v i 3), cel v i 4, cel v i 5, .int .i64 (ic v i 6), .int .i64 (ic v i 7), .int .i64 (ic v i 8)] ∧ S22 [cel v i 0] ∧ S88 [cel v i 1] ∧ wfI (ic v i 2) ∧ wfI (ic v i 3) ∧ S85 [cel v i 4] ∧ S22 [cel v i 5] ∧ wfI (ic v i 6) ∧ wfI (ic v i 7) ∧ wfI (ic v i 8) := by
  obtain ⟨a, b, c, d, e, f, g, k, l, h1, h2, h3, h4, h5, h6, h7, h8, h9, h10⟩ := flat90 (row25 h hi)
  simp only [sc, ic, bc, cel, h1, List.getD_cons_zero, List.getD_cons_succ, strV, intV, boolV]
  exact ⟨trivial, h2, h3, wf_of h4, wf_of h5, h6, h7, wf_of h8, wf_of h9, wf_of h10⟩
theorem e28 {v : V} (h : S28 [v]) {i : Nat} (hi : i < lenV v) : row v i = [.int .i64 (ic v i 0), .int .i64 (ic v i 1), cel v i 2, cel v i 3, cel v i 4] ∧ wfI (ic v i 0) ∧ wfI (ic v i 1) ∧ S22 [cel v i 2] ∧ S22 [cel v i 3] ∧ S22 [cel v i 4] := by
  obtain ⟨a, b, c, d, e, h1, h2, h3, h4, h5, h6⟩ := flat70 (row28 h hi)
  simp only [sc, ic, bc, cel, h1, List.getD_cons_zero, List.getD_cons_succ, strV, intV, boolV]
  exact ⟨trivial, wf_of h2, wf_of h3, h4, h5, h6⟩
/-! What is returned. -/
def bval : Res → Bool
  | some (.bool b, _, _) => b
  | _ => false
def ival : Res → Int
  | some (.int _ n, _, _) => n
  | _ => 0
def dval : Res → Bool
  | some (_, _, d) => d
  | _ => false
theorem rtT_eq {x : Res} (h : RtT x) : x = some (.bool (bval x), [], dval x) := by
  obtain ⟨b, d, rfl⟩ := h; rfl
/-- returns a bool, and if it is true then P -/
def RtW (P : Prop) (x : Res) : Prop := ∃ b d, x = some (.bool b, [], d) ∧ (b = true → P)
theorem RtW_some {P : Prop} {b d : Bool} : RtW P (some (.bool b, [], d)) = (b = true → P) := by
  simp [RtW]
theorem RtW_ite {P c : Prop} [Decidable c] {x y : Res} : RtW P (if c then x else y) = ((c → RtW P x) ∧ (¬ c → RtW P y)) := by by_cases h : c <;> simp [h]
theorem RtW_kif {P : Prop} {c : Bool} {x y : Res} : RtW P (kif c x y) = ((c = true → RtW P x) ∧ (c = false → RtW P y)) := by cases c <;> simp [kif]
theorem RtW.t {P : Prop} {x : Res} (h : RtW P x) : RtT x := by obtain ⟨b, d, h, _⟩ := h; exact ⟨b, d, h⟩
theorem rtW_p {P : Prop} {x : Res} (h : RtW P x) (hb : bval x = true) : P := by
  obtain ⟨b, d, rfl, h⟩ := h
  exact h hb
/-- returns a number for which P -/
def RtI (k : IntKind) (P : Int → Prop) (x : Res) : Prop := ∃ n d, x = some (.int k n, [], d) ∧ P n
theorem RtI_some {k : IntKind} {P : Int → Prop} {n : Int} {d : Bool} : RtI k P (some (.int k n, [], d)) = P n := by
  simp [RtI]
theorem RtI_ite {k : IntKind} {P : Int → Prop} {c : Prop} [Decidable c] {x y : Res} : RtI k P (if c then x else y) = ((c → RtI k P x) ∧ (¬ c → RtI k P y)) := by by_cases h : c <;> simp [h]
theorem RtI_kif {k : IntKind} {P : Int → Prop} {c : Bool} {x y : Res} : RtI k P (kif c x y) = ((c = true → RtI k P x) ∧ (c = false → RtI k P y)) := by cases c <;> simp [kif]
theorem rtI_eq {k : IntKind} {P : Int → Prop} {x : Res} (h : RtI k P x) : x = some (.int k (ival x), [], dval x) := by
  obtain ⟨n, d, rfl, _⟩ := h; rfl
theorem rtI_p {k : IntKind} {P : Int → Prop} {x : Res} (h : RtI k P x) : P (ival x) := by
  obtain ⟨n, d, rfl, h⟩ := h; exact h
theorem rtB_eq {P : Prop} [Decidable P] {x : Res} (h : RtB P x) : x = some (.bool (decide P), [], dval x) := by
  obtain ⟨b, d, rfl, h⟩ := h
  cases b <;> simp_all [dval]
def qi (f : FuncId) (k : Nat) (xs : List V) : Int := ival (callF tbl pu k f xs [])
/-- a function, as a function to bool -/
def qb (f : FuncId) (k : Nat) (xs : List V) : Bool := bval (callF tbl pu k f xs [])
def qd (f : FuncId) (k : Nat) (xs : List V) : Bool := dval (callF tbl pu k f xs [])
theorem rtT_q {f : FuncId} {k : Nat} {xs : List V} (h : RtT (callF tbl pu k f xs [])) : callF tbl pu k f xs [] = some (.bool (qb f k xs), [], qd f k xs) := rtT_eq h
end Go.AM.Ytegibclhopenmaa
