/- symMerge: its loops. -/
import Derived.Test.YtcfijihoepkgeaaSoD
set_option linter.unusedVariables false
set_option linter.unusedSimpArgs false
namespace Go.AM.Ytcfijihoepkgeaa
open Go Go.AM
set_option maxRecDepth 100000
set_option maxHeartbeats 0
/-- a loop that halves an interval -/
theorem bsearch {pre : St → Option St} {f : St → Option (Ex × St)} (T : Nat → Nat → St) (q : Nat → Prop) (lo hi : Nat) (hm : ∀ c c', lo ≤ c → c ≤ c' → c' < hi → q c' → q c)
    (h1 : ∀ i j, lo ≤ i → i < j → j ≤ hi → q ((i + j) / 2) → kNext pre (f (T i j)) = some (T ((i + j) / 2 + 1) j))
    (h2 : ∀ i j, lo ≤ i → i < j → j ≤ hi → ¬ q ((i + j) / 2) → kNext pre (f (T i j)) = some (T i ((i + j) / 2)))
    (r : Nat → Ex × St) (h3 : ∀ i, f (T i i) = some (r i)) (h4 : ∀ i, (r i).1 ≠ .normal) :
    ∀ (N i j : Nat), j - i = N → lo ≤ i → i ≤ j → j ≤ hi → (∀ c, lo ≤ c → c < i → q c) → (∀ c, j ≤ c → c < hi → ¬ q c) →
      ∃ e, lo ≤ e ∧ e ≤ hi ∧ (∀ c, lo ≤ c → c < e → q c) ∧ (∀ c, e ≤ c → c < hi → ¬ q c) ∧ ∀ M s, N < M → pre s = some (T i j) → iter pre f M s = some (r e) := by
  intro N
  induction N using Nat.strongRecOn with
  | ind N ih =>
    intro i j hN hi1 hij hj g1 g2
    by_cases hlt : i < j
    · by_cases hq : q ((i + j) / 2)
      · obtain ⟨e, a1, a2, a3, a4, a5⟩ := ih (j - ((i + j) / 2 + 1)) (by omega) ((i + j) / 2 + 1) j rfl (by omega) (by omega) hj (fun c hc1 hc2 => hm c ((i + j) / 2) hc1 (by omega) (by omega) hq) g2
        refine ⟨e, a1, a2, a3, a4, fun M s hM hs => ?_⟩
        obtain ⟨M, rfl⟩ : ∃ M', M = M' + 1 := ⟨M - 1, by omega⟩
        exact iter_go hs (h1 i j hi1 hlt hj hq) fun s' hs' => a5 M s' (by omega) hs'
      · obtain ⟨e, a1, a2, a3, a4, a5⟩ := ih ((i + j) / 2 - i) (by omega) i ((i + j) / 2) rfl hi1 (by omega) (by omega) g1 (fun c hc1 hc2 hc3 => hq (hm _ c (by omega) hc1 hc2 hc3))
        refine ⟨e, a1, a2, a3, a4, fun M s hM hs => ?_⟩
        obtain ⟨M, rfl⟩ : ∃ M', M = M' + 1 := ⟨M - 1, by omega⟩
        exact iter_go hs (h2 i j hi1 hlt hj hq) fun s' hs' => a5 M s' (by omega) hs'
    · obtain rfl : i = j := by omega
      refine ⟨i, hi1, hj, g1, g2, fun M s hM hs => ?_⟩
      obtain ⟨M, rfl⟩ : ∃ M', M = M' + 1 := ⟨M - 1, by omega⟩
      exact iter_end hs (h3 i) (h4 i)
theorem wu64 {n : Int} (h1 : 0 ≤ n) (h2 : n ≤ 9223372036854775807) : IntKind.u64.wrap n = n := by
  rw [IntKind.wrap_u64]; omega
theorem half {i j : Nat} : ((i : Int) + j).fdiv 2 = (((i + j) / 2 : Nat) : Int) := by
  rw [Int.fdiv_eq_ediv_of_nonneg _ (by omega)]; omega
theorem half2 {i j : Nat} : min (1 : Nat) 64 = 1 := by decide
/-- one before a list: the search for its place -/
def D77 (es : List (List V)) (L a i j : Nat) (d : Bool) : St := ⟨[.sl 4 0 L 0 L, .int .i64 a, .undef, .undef, .fn 34 [], .undef, .undef, .undef, .undef, .undef, .int .i64 i, .int .i64 j, .undef, .undef, .undef, .undef, .undef, .undef, .undef, .undef, .undef, .undef, .undef, .undef, .undef, .undef, .undef, .undef, .undef, .undef, .undef, .undef, .undef, .undef, .undef, .undef, .undef, .undef, .undef, .undef, .undef, .undef, .undef, .undef, .undef, .undef, .undef, .undef, .undef, .undef, .undef, .undef, .undef, .undef, .undef, .undef, .undef, .undef, .undef, .undef, .undef, .undef, .undef, .undef, .undef, .undef, .undef, .undef, .undef, .undef, .undef, .undef, .undef, .undef, .undef, .undef, .undef, .undef, .undef, .undef, .undef, .undef, .undef, .undef, .undef, .undef, .undef, .undef, .undef, .undef, .undef, .undef, .undef, .undef, .undef, .undef, .undef, .undef, .undef, .undef, .undef, .undef, .undef, .undef, .undef, .undef, .undef, .undef, .undef, .undef, .undef, .undef, .undef, .undef, .undef, .undef, .undef, .undef, .undef, .undef, .undef, .undef, .undef, .undef, .undef, .undef, .undef, .undef, .undef, .undef, .undef, .undef, .undef, .undef, .undef, .undef, .undef, .undef, .undef, .undef, .undef, .undef, .undef, .undef, .undef, .undef, .undef, .undef, .undef, .undef, .undef, .undef, .undef, .undef, .undef, .undef, .undef, .undef, .undef, .undef, .undef, .undef, .undef, .undef, .undef, .undef, .undef, .undef, .undef, .undef, .undef, .undef, .undef, .undef, .undef, .undef, .undef, .undef, .undef, .undef, .undef, .undef, .undef, .undef, .undef, .undef, .undef, .undef, .undef, .undef, .undef, .undef, .undef, .undef, .undef, .undef, .undef, .undef, .undef, .undef, .undef, .undef, .undef, .undef, .undef, .undef, .undef, .undef, .undef, .undef, .undef, .undef, .undef, .undef, .undef, .undef, .undef, .undef, .undef, .undef], [⟨4, es, 0, false, true⟩], d⟩
theorem s77d (k : Nat) (es : List (List V)) (L a i j h : Nat) (d : Bool) (x y : Pt) (hL : es.length = L) (hh : (i + j) / 2 = h) (hij : i < j) (hy : es[h]? = some y.vs) (hx : es[a]? = some x.vs) (ha : a < L) (hhL : h < L) (hj : j ≤ L) (hb : L ≤ 100000) :
    kNext (tidy [0, 1, 4, 10, 11] 1) (execC (callF tbl pu (k + 7)) pu 1 (k + 7) c77_b4 (D77 es L a i j d)) = some (if cmp3 y x < 0 then D77 es L a (h + 1) j d else D77 es L a i h d) := by
  have w1 : IntKind.i64.wrap ((i : Int) + j) = (i : Int) + j := wrap64 (by omega) (by omega)
  have w2 : IntKind.u64.wrap ((i : Int) + j) = (i : Int) + j := wu64 (by omega) (by omega)
  have w3 : ((i : Int) + j).fdiv 2 = h := by rw [half, hh]
  have w4 : IntKind.u64.wrap (h : Int) = h := wu64 (by omega) (by omega)
  have w5 : IntKind.i64.wrap (h : Int) = h := wrap64 (by omega) (by omega)
  have w6 : IntKind.i64.wrap ((h : Int) + 1) = (h : Int) + 1 := wrap64 (by omega) (by omega)
  have h34 := d34 k y x
  subst hL
  rw [List.getElem?_eq_getElem ha, Option.some_inj] at hx
  rw [List.getElem?_eq_getElem hhL, Option.some_inj] at hy
  simp only [Pt.vs] at hx hy h34
  clear hh
  by_cases hc : cmp3 y x < 0
  · simp [D77, c77_b4, c77_r4, c77_a4, shiftBin, IntKind.bits, w1, w2, w3, w4, w5, w6, hx, hy, ha, hhL, hij, callV_pure, p34, h34, hc]
  · simp [D77, c77_b4, c77_r4, c77_a4, shiftBin, IntKind.bits, w1, w2, w3, w4, w5, w6, hx, hy, ha, hhL, hij, callV_pure, p34, h34, hc]
theorem e77d (call : CallT) (k : Nat) (es : List (List V)) (L a i : Nat) (d : Bool) :
    execC call pu 1 k c77_b4 (D77 es L a i i d) = some (.exit 0, ⟨(D77 es L a i i d).fr.set 31 (.int .i64 i) |>.set 32 (.int .i64 i) |>.set 33 (.bool false), [⟨4, es, 0, false, true⟩], d⟩) := by
  simp [D77, c77_b4]
/-- and its way there -/
def C77 (es : List (List V)) (L i c : Nat) (d : Bool) : St := ⟨[.sl 4 0 L 0 L, .undef, .undef, .undef, .undef, .undef, .undef, .undef, .undef, .undef, .int .i64 i, .undef, .undef, .int .i64 c, .undef, .undef, .undef, .undef, .undef, .undef, .undef, .undef, .undef, .undef, .undef, .undef, .undef, .undef, .undef, .undef, .undef, .undef, .undef, .undef, .undef, .undef, .undef, .undef, .undef, .undef, .undef, .undef, .undef, .undef, .undef, .undef, .undef, .undef, .undef, .undef, .undef, .undef, .undef, .undef, .undef, .undef, .undef, .undef, .undef, .undef, .undef, .undef, .undef, .undef, .undef, .undef, .undef, .undef, .undef, .undef, .undef, .undef, .undef, .undef, .undef, .undef, .undef, .undef, .undef, .undef, .undef, .undef, .undef, .undef, .undef, .undef, .undef, .undef, .undef, .undef, .undef, .undef, .undef, .undef, .undef, .undef, .undef, .undef, .undef, .undef, .undef, .undef, .undef, .undef, .undef, .undef, .undef, .undef, .undef, .undef, .undef, .undef, .undef, .undef, .undef, .undef, .undef, .undef, .undef, .undef, .undef, .undef, .undef, .undef, .undef, .undef, .undef, .undef, .undef, .undef, .undef, .undef, .undef, .undef, .undef, .undef, .undef, .undef, .undef, .undef, .undef, .undef, .undef, .undef, .undef, .undef, .undef, .undef, .undef, .undef, .undef, .undef, .undef, .undef, .undef, .undef, .undef, .undef, .undef, .undef, .undef, .undef, .undef, .undef, .undef, .undef, .undef, .undef, .undef, .undef, .undef, .undef, .undef, .undef, .undef, .undef, .undef, .undef, .undef, .undef, .undef, .undef, .undef, .undef, .undef, .undef, .undef, .undef, .undef, .undef, .undef, .undef, .undef, .undef, .undef, .undef, .undef, .undef, .undef, .undef, .undef, .undef, .undef, .undef, .undef, .undef, .undef, .undef, .undef, .undef, .undef, .undef, .undef, .undef, .undef, .undef, .undef, .undef, .undef, .undef], [⟨4, es, 0, false, true⟩], d⟩
theorem s77c (call : CallT) (k : Nat) (es : List (List V)) (L i p q : Nat) (d : Bool) (x y : Pt) (hL : es.length = L) (hq : p + 1 = q) (hi : q < i) (hx : es[p]? = some x.vs) (hy : es[q]? = some y.vs) (hqL : q < L) (hiL : i ≤ L) (hb : L ≤ 100000) :
    kNext (tidy [0, 10, 13] 1) (execC call pu 1 k c77_b3 (C77 es L i p d)) = some (C77 ((es.set p y.vs).set q x.vs) L i q true) := by
  have hpL : p < L := by omega
  have hp : (p : Int) + 1 = q := by omega
  have wq : IntKind.i64.wrap (q : Int) = q := wrap64 (by omega) (by omega)
  have wi : IntKind.i64.wrap ((i : Int) - 1) = (i : Int) - 1 := wrap64 (by omega) (by omega)
  have hlt : (p : Int) < (i : Int) - 1 := by omega
  have hpq : p ≠ q := by omega
  subst hL
  rw [List.getElem?_eq_getElem hpL, Option.some_inj] at hx
  rw [List.getElem?_eq_getElem hqL, Option.some_inj] at hy
  clear hq
  simp only [Pt.vs] at hx hy ⊢
  simp [C77, c77_b3, c77_r3, c77_a3, hp, wq, wi, hx, hy, hlt, hpL, hqL, hpq, freeze_nil]
  rw [if_pos ⟨by kernel_rfl, by kernel_rfl⟩]
  simp [hp, wq]
theorem e77c (call : CallT) (k : Nat) (es : List (List V)) (L i c : Nat) (d : Bool) (h : i = c + 1) (hb : i ≤ 100000) :
    execC call pu 1 k c77_b3 (C77 es L i c d) = some (.exit 2, ⟨(C77 es L i c d).fr.set 55 (.int .i64 c) |>.set 56 (.int .i64 i) |>.set 57 (.int .i64 c) |>.set 58 (.bool false), [⟨4, es, 0, false, true⟩], d⟩) := by
  have wi : IntKind.i64.wrap ((i : Int) - 1) = c := by rw [wrap64 (by omega) (by omega)]; omega
  clear h
  simp [C77, c77_b3, wi]
/-- one behind a list: the search for its place -/
def B77 (es : List (List V)) (L m i j : Nat) (d : Bool) : St := ⟨[.sl 4 0 L 0 L, .undef, .int .i64 m, .undef, .fn 34 [], .undef, .undef, .undef, .undef, .undef, .undef, .undef, .undef, .undef, .int .i64 i, .int .i64 j, .undef, .undef, .undef, .undef, .undef, .undef, .undef, .undef, .undef, .undef, .undef, .undef, .undef, .undef, .undef, .undef, .undef, .undef, .undef, .undef, .undef, .undef, .undef, .undef, .undef, .undef, .undef, .undef, .undef, .undef, .undef, .undef, .undef, .undef, .undef, .undef, .undef, .undef, .undef, .undef, .undef, .undef, .undef, .undef, .undef, .undef, .undef, .undef, .undef, .undef, .undef, .undef, .undef, .undef, .undef, .undef, .undef, .undef, .undef, .undef, .undef, .undef, .undef, .undef, .undef, .undef, .undef, .undef, .undef, .undef, .undef, .undef, .undef, .undef, .undef, .undef, .undef, .undef, .undef, .undef, .undef, .undef, .undef, .undef, .undef, .undef, .undef, .undef, .undef, .undef, .undef, .undef, .undef, .undef, .undef, .undef, .undef, .undef, .undef, .undef, .undef, .undef, .undef, .undef, .undef, .undef, .undef, .undef, .undef, .undef, .undef, .undef, .undef, .undef, .undef, .undef, .undef, .undef, .undef, .undef, .undef, .undef, .undef, .undef, .undef, .undef, .undef, .undef, .undef, .undef, .undef, .undef, .undef, .undef, .undef, .undef, .undef, .undef, .undef, .undef, .undef, .undef, .undef, .undef, .undef, .undef, .undef, .undef, .undef, .undef, .undef, .undef, .undef, .undef, .undef, .undef, .undef, .undef, .undef, .undef, .undef, .undef, .undef, .undef, .undef, .undef, .undef, .undef, .undef, .undef, .undef, .undef, .undef, .undef, .undef, .undef, .undef, .undef, .undef, .undef, .undef, .undef, .undef, .undef, .undef, .undef, .undef, .undef, .undef, .undef, .undef, .undef, .undef, .undef, .undef, .undef, .undef, .undef, .undef, .undef, .undef, .undef, .undef, .undef], [⟨4, es, 0, false, true⟩], d⟩
theorem s77b (k : Nat) (es : List (List V)) (L m i j h : Nat) (d : Bool) (x y : Pt) (hL : es.length = L) (hh : (i + j) / 2 = h) (hij : i < j) (hy : es[h]? = some y.vs) (hx : es[m]? = some x.vs) (ha : m < L) (hhL : h < L) (hj : j ≤ L) (hb : L ≤ 100000) :
    kNext (tidy [0, 2, 4, 14, 15] 1) (execC (callF tbl pu (k + 7)) pu 1 (k + 7) c77_b2 (B77 es L m i j d)) = some (if ¬ cmp3 x y < 0 then B77 es L m (h + 1) j d else B77 es L m i h d) := by
  have w1 : IntKind.i64.wrap ((i : Int) + j) = (i : Int) + j := wrap64 (by omega) (by omega)
  have w2 : IntKind.u64.wrap ((i : Int) + j) = (i : Int) + j := wu64 (by omega) (by omega)
  have w3 : ((i : Int) + j).fdiv 2 = h := by rw [half, hh]
  have w4 : IntKind.u64.wrap (h : Int) = h := wu64 (by omega) (by omega)
  have w5 : IntKind.i64.wrap (h : Int) = h := wrap64 (by omega) (by omega)
  have w6 : IntKind.i64.wrap ((h : Int) + 1) = (h : Int) + 1 := wrap64 (by omega) (by omega)
  have h34 := d34 k x y
  subst hL
  rw [List.getElem?_eq_getElem ha, Option.some_inj] at hx
  rw [List.getElem?_eq_getElem hhL, Option.some_inj] at hy
  simp only [Pt.vs] at hx hy h34
  clear hh
  by_cases hc : cmp3 x y < 0
  · simp [B77, c77_b2, c77_r2, c77_a2, shiftBin, IntKind.bits, w1, w2, w3, w4, w5, w6, hx, hy, ha, hhL, hij, callV_pure, p34, h34, hc]
  · simp [B77, c77_b2, c77_r2, c77_a2, shiftBin, IntKind.bits, w1, w2, w3, w4, w5, w6, hx, hy, ha, hhL, hij, callV_pure, p34, h34, hc]
theorem e77b (call : CallT) (k : Nat) (es : List (List V)) (L m i : Nat) (d : Bool) :
    execC call pu 1 k c77_b2 (B77 es L m i i d) = some (.exit 4, ⟨(B77 es L m i i d).fr.set 83 (.int .i64 i) |>.set 84 (.int .i64 i) |>.set 85 (.bool false), [⟨4, es, 0, false, true⟩], d⟩) := by
  simp [B77, c77_b2]
/-- and its way there -/
def A77 (es : List (List V)) (L i c : Nat) (d : Bool) : St := ⟨[.sl 4 0 L 0 L, .undef, .undef, .undef, .undef, .undef, .undef, .undef, .undef, .undef, .undef, .undef, .undef, .undef, .int .i64 i, .undef, .undef, .int .i64 c, .undef, .undef, .undef, .undef, .undef, .undef, .undef, .undef, .undef, .undef, .undef, .undef, .undef, .undef, .undef, .undef, .undef, .undef, .undef, .undef, .undef, .undef, .undef, .undef, .undef, .undef, .undef, .undef, .undef, .undef, .undef, .undef, .undef, .undef, .undef, .undef, .undef, .undef, .undef, .undef, .undef, .undef, .undef, .undef, .undef, .undef, .undef, .undef, .undef, .undef, .undef, .undef, .undef, .undef, .undef, .undef, .undef, .undef, .undef, .undef, .undef, .undef, .undef, .undef, .undef, .undef, .undef, .undef, .undef, .undef, .undef, .undef, .undef, .undef, .undef, .undef, .undef, .undef, .undef, .undef, .undef, .undef, .undef, .undef, .undef, .undef, .undef, .undef, .undef, .undef, .undef, .undef, .undef, .undef, .undef, .undef, .undef, .undef, .undef, .undef, .undef, .undef, .undef, .undef, .undef, .undef, .undef, .undef, .undef, .undef, .undef, .undef, .undef, .undef, .undef, .undef, .undef, .undef, .undef, .undef, .undef, .undef, .undef, .undef, .undef, .undef, .undef, .undef, .undef, .undef, .undef, .undef, .undef, .undef, .undef, .undef, .undef, .undef, .undef, .undef, .undef, .undef, .undef, .undef, .undef, .undef, .undef, .undef, .undef, .undef, .undef, .undef, .undef, .undef, .undef, .undef, .undef, .undef, .undef, .undef, .undef, .undef, .undef, .undef, .undef, .undef, .undef, .undef, .undef, .undef, .undef, .undef, .undef, .undef, .undef, .undef, .undef, .undef, .undef, .undef, .undef, .undef, .undef, .undef, .undef, .undef, .undef, .undef, .undef, .undef, .undef, .undef, .undef, .undef, .undef, .undef, .undef, .undef, .undef, .undef, .undef, .undef], [⟨4, es, 0, false, true⟩], d⟩
theorem s77a (call : CallT) (k : Nat) (es : List (List V)) (L i p q : Nat) (d : Bool) (x y : Pt) (hL : es.length = L) (hq : q = p + 1) (hi : i < q) (hx : es[q]? = some x.vs) (hy : es[p]? = some y.vs) (hqL : q < L) (hb : L ≤ 100000) :
    kNext (tidy [0, 14, 17] 1) (execC call pu 1 k c77_b1 (A77 es L i q d)) = some (A77 ((es.set q y.vs).set p x.vs) L i p true) := by
  have hpL : p < L := by omega
  have hp : (q : Int) - 1 = p := by omega
  have wp : IntKind.i64.wrap (p : Int) = p := wrap64 (by omega) (by omega)
  have hpq : q ≠ p := by omega
  subst hL
  rw [List.getElem?_eq_getElem hqL, Option.some_inj] at hx
  rw [List.getElem?_eq_getElem hpL, Option.some_inj] at hy
  clear hq
  simp only [Pt.vs] at hx hy ⊢
  simp [A77, c77_b1, c77_r1, c77_a1, hp, wp, hx, hy, hi, hpL, hqL, hpq, freeze_nil]
  rw [if_pos ⟨by kernel_rfl, by kernel_rfl⟩]
  simp [hp, wp]
theorem e77a (call : CallT) (k : Nat) (es : List (List V)) (L i : Nat) (d : Bool) :
    execC call pu 1 k c77_b1 (A77 es L i i d) = some (.exit 6, ⟨(A77 es L i i d).fr.set 108 (.int .i64 i) |>.set 109 (.int .i64 i) |>.set 110 (.bool false), [⟨4, es, 0, false, true⟩], d⟩) := by
  simp [A77, c77_b1]
/-- the search in the middle -/
def M77 (es : List (List V)) (L a m b mid n p st r : Nat) (d : Bool) : St := ⟨[.sl 4 0 L 0 L, .int .i64 a, .int .i64 m, .int .i64 b, .fn 34 [], .undef, .undef, .undef, .undef, .undef, .undef, .undef, .undef, .undef, .undef, .undef, .undef, .undef, .int .i64 mid, .int .i64 n, .int .i64 st, .int .i64 r, .int .i64 p, .undef, .undef, .undef, .undef, .undef, .undef, .undef, .undef, .undef, .undef, .undef, .undef, .undef, .undef, .undef, .undef, .undef, .undef, .undef, .undef, .undef, .undef, .undef, .undef, .undef, .undef, .undef, .undef, .undef, .undef, .undef, .undef, .undef, .undef, .undef, .undef, .undef, .undef, .undef, .undef, .undef, .undef, .undef, .undef, .undef, .undef, .undef, .undef, .undef, .undef, .undef, .undef, .undef, .undef, .undef, .undef, .undef, .undef, .undef, .undef, .undef, .undef, .undef, .undef, .undef, .undef, .undef, .undef, .undef, .undef, .undef, .undef, .undef, .undef, .undef, .undef, .undef, .undef, .undef, .undef, .undef, .undef, .undef, .undef, .undef, .undef, .undef, .undef, .undef, .undef, .undef, .undef, .undef, .undef, .undef, .undef, .undef, .undef, .undef, .undef, .undef, .undef, .undef, .undef, .undef, .undef, .undef, .undef, .undef, .undef, .undef, .undef, .undef, .undef, .undef, .undef, .undef, .undef, .undef, .undef, .undef, .undef, .undef, .undef, .undef, .undef, .undef, .undef, .undef, .undef, .undef, .undef, .undef, .undef, .undef, .undef, .undef, .undef, .undef, .undef, .undef, .undef, .undef, .undef, .undef, .undef, .undef, .undef, .undef, .undef, .undef, .undef, .undef, .undef, .undef, .undef, .undef, .undef, .undef, .undef, .undef, .undef, .undef, .undef, .undef, .undef, .undef, .undef, .undef, .undef, .undef, .undef, .undef, .undef, .undef, .undef, .undef, .undef, .undef, .undef, .undef, .undef, .undef, .undef, .undef, .undef, .undef, .undef, .undef, .undef, .undef, .undef, .undef, .undef, .undef, .undef, .undef], [⟨4, es, 0, false, true⟩], d⟩
theorem s77m (k : Nat) (es : List (List V)) (L a m b mid n p i j h : Nat) (d : Bool) (x y : Pt) (hL : es.length = L) (hh : (i + j) / 2 = h) (hij : i < j) (hx : es[p - h]? = some x.vs) (hy : es[h]? = some y.vs) (hp : h ≤ p) (ha : p - h < L) (hhL : h < L) (hj : j ≤ L) (hpl : p ≤ 2 * L) (hb : L ≤ 100000) :
    kNext (tidy [0, 1, 2, 3, 4, 18, 19, 20, 21, 22] 1) (execC (callF tbl pu (k + 7)) pu 1 (k + 7) c77_b0 (M77 es L a m b mid n p i j d)) = some (if ¬ cmp3 x y < 0 then M77 es L a m b mid n p (h + 1) j d else M77 es L a m b mid n p i h d) := by
  have w1 : IntKind.i64.wrap ((i : Int) + j) = (i : Int) + j := wrap64 (by omega) (by omega)
  have w2 : IntKind.u64.wrap ((i : Int) + j) = (i : Int) + j := wu64 (by omega) (by omega)
  have w3 : ((i : Int) + j).fdiv 2 = h := by rw [half, hh]
  have w4 : IntKind.u64.wrap (h : Int) = h := wu64 (by omega) (by omega)
  have w5 : IntKind.i64.wrap (h : Int) = h := wrap64 (by omega) (by omega)
  have w6 : IntKind.i64.wrap ((h : Int) + 1) = (h : Int) + 1 := wrap64 (by omega) (by omega)
  have w7 : IntKind.i64.wrap ((p : Int) - h) = ((p - h : Nat) : Int) := by rw [wrap64 (by omega) (by omega)]; omega
  have h34 := d34 k x y
  generalize p - h = q at *
  subst hL
  rw [List.getElem?_eq_getElem ha, Option.some_inj] at hx
  rw [List.getElem?_eq_getElem hhL, Option.some_inj] at hy
  simp only [Pt.vs] at hx hy h34
  clear hh
  by_cases hc : cmp3 x y < 0
  · simp [M77, c77_b0, c77_r0, c77_a0, shiftBin, IntKind.bits, w1, w2, w3, w4, w5, w6, w7, hx, hy, ha, hhL, hij, callV_pure, p34, h34, hc]
  · simp [M77, c77_b0, c77_r0, c77_a0, shiftBin, IntKind.bits, w1, w2, w3, w4, w5, w6, w7, hx, hy, ha, hhL, hij, callV_pure, p34, h34, hc]
theorem e77m (call : CallT) (k : Nat) (es : List (List V)) (L a m b mid n p i : Nat) (d : Bool) :
    execC call pu 1 k c77_b0 (M77 es L a m b mid n p i i d) = some (.exit 8, ⟨(M77 es L a m b mid n p i i d).fr.set 149 (.int .i64 i) |>.set 150 (.int .i64 i) |>.set 151 (.bool false), [⟨4, es, 0, false, true⟩], d⟩) := by
  simp [M77, c77_b0]
end Go.AM.Ytcfijihoepkgeaa
