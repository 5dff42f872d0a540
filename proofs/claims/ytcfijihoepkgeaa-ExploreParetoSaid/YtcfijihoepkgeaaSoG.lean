/- symMerge: behind its search. -/
import Derived.Test.YtcfijihoepkgeaaSoF
set_option linter.unusedVariables false
set_option linter.unusedSimpArgs false
namespace Go.AM.Ytcfijihoepkgeaa
open Go Go.AM
set_option maxRecDepth 100000
set_option maxHeartbeats 0
theorem kcall {dst : Option Nat} {fr : List V} {l l' : List Pt} {b d : Bool} (h : d = true ∨ l' = l) : kO dst ⟨fr, [bk l], b⟩ (kG [bk l] (kRet1 (some (.tup [], [bk l'], d)))) = some (⟨putV fr dst (.tup []), [bk l'], b || d⟩, d) := by
  cases d with
  | true => rw [kRet1_upd, kG_upd (by simp), kO_upd]; simp
  | false =>
    obtain rfl : l' = l := by simpa using h
    rw [kRet1_new, kG_new, kO_new]; simp
theorem p89 : pu 89 = false := by decide
theorem p77 : pu 77 = false := by decide
theorem p76 : pu 76 = false := by decide
def P77a : C := (.seq (.reg [⟨(some 178), none, (.mv (.t 20))⟩, ⟨(some 179), none, (.mv (.t 2))⟩, ⟨(some 180), none, (.bin .lss (.t 178) (.t 179))⟩, ⟨(some 181), none, (.mv (.t 180))⟩, ⟨(some 182), (some (181, true)), (.mv (.t 2))⟩, ⟨(some 183), (some (181, true)), (.mv (.t 24))⟩, ⟨(some 184), (some (181, true)), (.bin .lss (.t 182) (.t 183))⟩, ⟨(some 185), none, (.pick (.t 181) (.t 184) (.c (.bool false)))⟩]) (.cond (.t 185) (.reg [⟨(some 186), none, (.mv (.t 0))⟩, ⟨(some 187), none, (.mv (.t 20))⟩, ⟨(some 188), none, (.mv (.t 2))⟩, ⟨(some 189), none, (.mv (.t 24))⟩, ⟨(some 190), none, (.mv (.t 4))⟩, ⟨(some 191), none, (.call (.c (.fn 89 [])) [(.t 186), (.t 187), (.t 188), (.t 189), (.t 190)])⟩]) .skip))
def P77b : C := (.seq (.reg [⟨(some 192), none, (.mv (.t 1))⟩, ⟨(some 193), none, (.mv (.t 20))⟩, ⟨(some 194), none, (.bin .lss (.t 192) (.t 193))⟩, ⟨(some 195), none, (.mv (.t 194))⟩, ⟨(some 196), (some (195, true)), (.mv (.t 20))⟩, ⟨(some 197), (some (195, true)), (.mv (.t 18))⟩, ⟨(some 198), (some (195, true)), (.bin .lss (.t 196) (.t 197))⟩, ⟨(some 199), none, (.pick (.t 195) (.t 198) (.c (.bool false)))⟩]) (.cond (.t 199) (.reg [⟨(some 200), none, (.mv (.t 0))⟩, ⟨(some 201), none, (.mv (.t 1))⟩, ⟨(some 202), none, (.mv (.t 20))⟩, ⟨(some 203), none, (.mv (.t 18))⟩, ⟨(some 204), none, (.mv (.t 4))⟩, ⟨(some 205), none, (.call (.c (.fn 77 [])) [(.t 200), (.t 201), (.t 202), (.t 203), (.t 204)])⟩]) .skip))
def P77c : C := (.seq (.reg [⟨(some 206), none, (.mv (.t 18))⟩, ⟨(some 207), none, (.mv (.t 24))⟩, ⟨(some 208), none, (.bin .lss (.t 206) (.t 207))⟩, ⟨(some 209), none, (.mv (.t 208))⟩, ⟨(some 210), (some (209, true)), (.mv (.t 24))⟩, ⟨(some 211), (some (209, true)), (.mv (.t 3))⟩, ⟨(some 212), (some (209, true)), (.bin .lss (.t 210) (.t 211))⟩, ⟨(some 213), none, (.pick (.t 209) (.t 212) (.c (.bool false)))⟩]) (.cond (.t 213) (.reg [⟨(some 214), none, (.mv (.t 0))⟩, ⟨(some 215), none, (.mv (.t 18))⟩, ⟨(some 216), none, (.mv (.t 24))⟩, ⟨(some 217), none, (.mv (.t 3))⟩, ⟨(some 218), none, (.mv (.t 4))⟩, ⟨(some 219), none, (.call (.c (.fn 77 [])) [(.t 214), (.t 215), (.t 216), (.t 217), (.t 218)])⟩]) .skip))
def P77 : C := (.seq (.reg [⟨(some 175), none, (.mv (.t 19))⟩, ⟨(some 176), none, (.mv (.t 20))⟩, ⟨(some 177), none, (.bin .sub (.t 175) (.t 176))⟩, ⟨(some 24), none, (.mv (.t 177))⟩]) (.seq P77a (.seq P77b P77c)))
def upd (w : Nat → V) : List (Nat × V) → Nat → V
  | [], j => w j
  | (i, v) :: ps, j => if j = i then v else upd w ps j
def G77 (w : Nat → V) (L a m b mid e en : Nat) : List V := [.sl 4 0 L 0 L, .int .i64 a, .int .i64 m, .int .i64 b, .fn 34 [], w 5, w 6, w 7, w 8, w 9, w 10, w 11, w 12, w 13, w 14, w 15, w 16, w 17, .int .i64 mid, w 19, .int .i64 e, w 21, w 22, w 23, .int .i64 en, w 25, w 26, w 27, w 28, w 29, w 30, w 31, w 32, w 33, w 34, w 35, w 36, w 37, w 38, w 39, w 40, w 41, w 42, w 43, w 44, w 45, w 46, w 47, w 48, w 49, w 50, w 51, w 52, w 53, w 54, w 55, w 56, w 57, w 58, w 59, w 60, w 61, w 62, w 63, w 64, w 65, w 66, w 67, w 68, w 69, w 70, w 71, w 72, w 73, w 74, w 75, w 76, w 77, w 78, w 79, w 80, w 81, w 82, w 83, w 84, w 85, w 86, w 87, w 88, w 89, w 90, w 91, w 92, w 93, w 94, w 95, w 96, w 97, w 98, w 99, w 100, w 101, w 102, w 103, w 104, w 105, w 106, w 107, w 108, w 109, w 110, w 111, w 112, w 113, w 114, w 115, w 116, w 117, w 118, w 119, w 120, w 121, w 122, w 123, w 124, w 125, w 126, w 127, w 128, w 129, w 130, w 131, w 132, w 133, w 134, w 135, w 136, w 137, w 138, w 139, w 140, w 141, w 142, w 143, w 144, w 145, w 146, w 147, w 148, w 149, w 150, w 151, w 152, w 153, w 154, w 155, w 156, w 157, w 158, w 159, w 160, w 161, w 162, w 163, w 164, w 165, w 166, w 167, w 168, w 169, w 170, w 171, w 172, w 173, w 174, w 175, w 176, w 177, w 178, w 179, w 180, w 181, w 182, w 183, w 184, w 185, w 186, w 187, w 188, w 189, w 190, w 191, w 192, w 193, w 194, w 195, w 196, w 197, w 198, w 199, w 200, w 201, w 202, w 203, w 204, w 205, w 206, w 207, w 208, w 209, w 210, w 211, w 212, w 213, w 214, w 215, w 216, w 217, w 218, w 219]
theorem P77a_ok (k : Nat) (w : Nat → V) (L a m b mid e en : Nat) (l l' : List Pt) (d dd : Bool)
    (h : e < m → m < en → callF tbl pu (k + 7) 89 [.sl 4 0 L 0 L, .int .i64 e, .int .i64 m, .int .i64 en, .fn 34 []] [bk l] = some (.tup [], [bk l'], d)) (g : ¬ (e < m ∧ m < en) → l' = l) (f : d = true ∨ l' = l) :
    ∃ w', execC (callF tbl pu (k + 7)) pu 1 (k + 7) P77a ⟨G77 w L a m b mid e en, [bk l], dd⟩ = some (.normal, ⟨G77 w' L a m b mid e en, [bk l'], dd || (decide (e < m ∧ m < en) && d)⟩) := by
  unfold P77a
  by_cases q1 : e < m
  · by_cases q2 : m < en
    · have h := h q1 q2
      refine ⟨upd w [(178, .int .i64 e), (179, .int .i64 m), (180, .bool true), (181, .bool true), (182, .int .i64 m), (183, .int .i64 en), (184, .bool true), (185, .bool true), (186, .sl 4 0 L 0 L), (187, .int .i64 e), (188, .int .i64 m), (189, .int .i64 en), (190, .fn 34 []), (191, .tup [])], ?_⟩
      simp [G77, q1, q2, callV_bk, p89, h, kcall, f]
      simp [upd]
    · obtain rfl := g (fun h => q2 h.2)
      refine ⟨upd w [(178, .int .i64 e), (179, .int .i64 m), (180, .bool true), (181, .bool true), (182, .int .i64 m), (183, .int .i64 en), (184, .bool false), (185, .bool false)], ?_⟩
      simp [G77, q1, q2]
      simp [upd]
  · obtain rfl := g (fun h => q1 h.1)
    refine ⟨upd w [(178, .int .i64 e), (179, .int .i64 m), (180, .bool false), (181, .bool false), (182, .tup []), (183, .tup []), (184, .tup []), (185, .bool false)], ?_⟩
    simp [G77, q1]
    simp [upd]
theorem P77b_ok (k : Nat) (w : Nat → V) (L a m b mid e en : Nat) (l l' : List Pt) (d dd : Bool)
    (h : a < e → e < mid → callF tbl pu (k + 7) 77 [.sl 4 0 L 0 L, .int .i64 a, .int .i64 e, .int .i64 mid, .fn 34 []] [bk l] = some (.tup [], [bk l'], d)) (g : ¬ (a < e ∧ e < mid) → l' = l) (f : d = true ∨ l' = l) :
    ∃ w', execC (callF tbl pu (k + 7)) pu 1 (k + 7) P77b ⟨G77 w L a m b mid e en, [bk l], dd⟩ = some (.normal, ⟨G77 w' L a m b mid e en, [bk l'], dd || (decide (a < e ∧ e < mid) && d)⟩) := by
  unfold P77b
  by_cases q1 : a < e
  · by_cases q2 : e < mid
    · have h := h q1 q2
      refine ⟨upd w [(192, .int .i64 a), (193, .int .i64 e), (194, .bool true), (195, .bool true), (196, .int .i64 e), (197, .int .i64 mid), (198, .bool true), (199, .bool true), (200, .sl 4 0 L 0 L), (201, .int .i64 a), (202, .int .i64 e), (203, .int .i64 mid), (204, .fn 34 []), (205, .tup [])], ?_⟩
      simp [G77, q1, q2, callV_bk, p77, h, kcall, f]
      simp [upd]
    · obtain rfl := g (fun h => q2 h.2)
      refine ⟨upd w [(192, .int .i64 a), (193, .int .i64 e), (194, .bool true), (195, .bool true), (196, .int .i64 e), (197, .int .i64 mid), (198, .bool false), (199, .bool false)], ?_⟩
      simp [G77, q1, q2]
      simp [upd]
  · obtain rfl := g (fun h => q1 h.1)
    refine ⟨upd w [(192, .int .i64 a), (193, .int .i64 e), (194, .bool false), (195, .bool false), (196, .tup []), (197, .tup []), (198, .tup []), (199, .bool false)], ?_⟩
    simp [G77, q1]
    simp [upd]
theorem P77c_ok (k : Nat) (w : Nat → V) (L a m b mid e en : Nat) (l l' : List Pt) (d dd : Bool)
    (h : mid < en → en < b → callF tbl pu (k + 7) 77 [.sl 4 0 L 0 L, .int .i64 mid, .int .i64 en, .int .i64 b, .fn 34 []] [bk l] = some (.tup [], [bk l'], d)) (g : ¬ (mid < en ∧ en < b) → l' = l) (f : d = true ∨ l' = l) :
    ∃ w', execC (callF tbl pu (k + 7)) pu 1 (k + 7) P77c ⟨G77 w L a m b mid e en, [bk l], dd⟩ = some (.normal, ⟨G77 w' L a m b mid e en, [bk l'], dd || (decide (mid < en ∧ en < b) && d)⟩) := by
  unfold P77c
  by_cases q1 : mid < en
  · by_cases q2 : en < b
    · have h := h q1 q2
      refine ⟨upd w [(206, .int .i64 mid), (207, .int .i64 en), (208, .bool true), (209, .bool true), (210, .int .i64 en), (211, .int .i64 b), (212, .bool true), (213, .bool true), (214, .sl 4 0 L 0 L), (215, .int .i64 mid), (216, .int .i64 en), (217, .int .i64 b), (218, .fn 34 []), (219, .tup [])], ?_⟩
      simp [G77, q1, q2, callV_bk, p77, h, kcall, f]
      simp [upd]
    · obtain rfl := g (fun h => q2 h.2)
      refine ⟨upd w [(206, .int .i64 mid), (207, .int .i64 en), (208, .bool true), (209, .bool true), (210, .int .i64 en), (211, .int .i64 b), (212, .bool false), (213, .bool false)], ?_⟩
      simp [G77, q1, q2]
      simp [upd]
  · obtain rfl := g (fun h => q1 h.1)
    refine ⟨upd w [(206, .int .i64 mid), (207, .int .i64 en), (208, .bool false), (209, .bool false), (210, .tup []), (211, .tup []), (212, .tup []), (213, .bool false)], ?_⟩
    simp [G77, q1]
    simp [upd]
theorem t77 (k L a m b mid n p e en lo hi : Nat) (l0 l1 l2 l3 : List Pt) (d1 d2 d3 : Bool)
    (h1 : e < m → m < en → callF tbl pu (k + 7) 89 [.sl 4 0 L 0 L, .int .i64 e, .int .i64 m, .int .i64 en, .fn 34 []] [bk l0] = some (.tup [], [bk l1], d1)) (g1 : ¬ (e < m ∧ m < en) → l1 = l0) (f1 : d1 = true ∨ l1 = l0)
    (h2 : a < e → e < mid → callF tbl pu (k + 7) 77 [.sl 4 0 L 0 L, .int .i64 a, .int .i64 e, .int .i64 mid, .fn 34 []] [bk l1] = some (.tup [], [bk l2], d2)) (g2 : ¬ (a < e ∧ e < mid) → l2 = l1) (f2 : d2 = true ∨ l2 = l1)
    (h3 : mid < en → en < b → callF tbl pu (k + 7) 77 [.sl 4 0 L 0 L, .int .i64 mid, .int .i64 en, .int .i64 b, .fn 34 []] [bk l2] = some (.tup [], [bk l3], d3)) (g3 : ¬ (mid < en ∧ en < b) → l3 = l2) (f3 : d3 = true ∨ l3 = l2)
    (c1 : m - a ≠ 1) (c2 : b - m ≠ 1) (ha : a ≤ m) (hm : m ≤ b) (hb : b ≤ 100000) (hmid : (a + b) / 2 = mid) (hn : mid + m = n) (hp : p + 1 = n) (hen : e + en = n)
    (hlo : lo = if mid < m then n - b else a) (hhi : hi = if mid < m then mid else m) (hbn : mid < m → b ≤ n)
    (hs : ∀ M s, hi - lo < M → tidy [0, 1, 2, 3, 4, 18, 19, 20, 21, 22] 1 s = some (M77 (vsL l0) L a m b mid n p lo hi false) →
      iter (tidy [0, 1, 2, 3, 4, 18, 19, 20, 21, 22] 1) (execC (callF tbl pu (k + 7)) pu 1 (k + 7) c77_b0) M s = some (.exit 8, ⟨(M77 (vsL l0) L a m b mid n p e e false).fr.set 149 (.int .i64 e) |>.set 150 (.int .i64 e) |>.set 151 (.bool false), [bk l0], false⟩)) (hk : hi - lo < k + 7) :
    ∃ d, (d = true ∨ l3 = l0) ∧ callF tbl pu (k + 7 + 1) 77 [.sl 4 0 L 0 L, .int .i64 a, .int .i64 m, .int .i64 b, .fn 34 []] [bk l0] = some (.tup [], [bk l3], d) := by
  have w1 : IntKind.i64.wrap ((m : Int) - a) = ((m - a : Nat) : Int) := by rw [wrap64 (by omega) (by omega)]; omega
  have w1' : ¬ ((m - a : Nat) : Int) = 1 := by omega
  have w2 : IntKind.i64.wrap ((b : Int) - m) = ((b - m : Nat) : Int) := by rw [wrap64 (by omega) (by omega)]; omega
  have w2' : ¬ ((b - m : Nat) : Int) = 1 := by omega
  have v1 : IntKind.i64.wrap ((a : Int) + b) = (a : Int) + b := wrap64 (by omega) (by omega)
  have v2 : IntKind.u64.wrap ((a : Int) + b) = (a : Int) + b := wu64 (by omega) (by omega)
  have v3 : ((a : Int) + b).fdiv 2 = mid := by rw [half, hmid]
  have v4 : IntKind.u64.wrap (mid : Int) = mid := wu64 (by omega) (by omega)
  have v5 : IntKind.i64.wrap (mid : Int) = mid := wrap64 (by omega) (by omega)
  have v6 : IntKind.i64.wrap ((mid : Int) + m) = n := by rw [wrap64 (by omega) (by omega)]; omega
  have v7 : IntKind.i64.wrap ((n : Int) - 1) = p := by rw [wrap64 (by omega) (by omega)]; omega
  have v8 : IntKind.i64.wrap ((n : Int) - e) = en := by rw [wrap64 (by omega) (by omega)]; omega
  refine ⟨false || (decide (e < m ∧ m < en) && d1) || (decide (a < e ∧ e < mid) && d2) || (decide (mid < en ∧ en < b) && d3), ?_, ?_⟩
  · by_cases q1 : e < m ∧ m < en <;> by_cases q2 : a < e ∧ e < mid <;> by_cases q3 : mid < en ∧ en < b <;> simp only [q1, q2, q3, decide_true, decide_false, Bool.true_and, Bool.false_and, Bool.or_false, Bool.false_or, not_true_eq_false, not_false_eq_true, forall_const, and_self] at * <;> grind
  · have hbn' : mid < m → IntKind.i64.wrap ((n : Int) - b) = ((n - b : Nat) : Int) := fun h => by have := hbn h; rw [wrap64 (by omega) (by omega)]; omega
    generalize m - a = z1 at *
    generalize b - m = z2 at *
    have tail : kFin 1 [] (execC (callF tbl pu (k + 7)) pu 1 (k + 7) P77 ⟨(M77 (vsL l0) L a m b mid n p e e false).fr.set 149 (.int .i64 e) |>.set 150 (.int .i64 e) |>.set 151 (.bool false), [bk l0], false⟩) = some (.tup [], [bk l3], false || (decide (e < m ∧ m < en) && d1) || (decide (a < e ∧ e < mid) && d2) || (decide (mid < en ∧ en < b) && d3)) := by
      have st : execC (callF tbl pu (k + 7)) pu 1 (k + 7) P77 ⟨(M77 (vsL l0) L a m b mid n p e e false).fr.set 149 (.int .i64 e) |>.set 150 (.int .i64 e) |>.set 151 (.bool false), [bk l0], false⟩ =
          execC (callF tbl pu (k + 7)) pu 1 (k + 7) (.seq P77a (.seq P77b P77c)) ⟨G77 (upd (fun _ => .undef) [(19, .int .i64 n), (21, .int .i64 e), (22, .int .i64 p), (149, .int .i64 e), (150, .int .i64 e), (151, .bool false), (175, .int .i64 n), (176, .int .i64 e), (177, .int .i64 en)]) L a m b mid e en, [bk l0], false⟩ := by
        unfold P77
        generalize P77a = A
        generalize P77b = B
        generalize P77c = D
        simp [M77, v8]
        simp [G77, upd]
      rw [st]
      obtain ⟨w1, e1⟩ := P77a_ok k (upd (fun _ => .undef) [(19, .int .i64 n), (21, .int .i64 e), (22, .int .i64 p), (149, .int .i64 e), (150, .int .i64 e), (151, .bool false), (175, .int .i64 n), (176, .int .i64 e), (177, .int .i64 en)]) L a m b mid e en l0 l1 d1 false h1 g1 f1
      obtain ⟨w2, e2⟩ := P77b_ok k w1 L a m b mid e en l1 l2 d2 (false || (decide (e < m ∧ m < en) && d1)) h2 g2 f2
      obtain ⟨w3, e3⟩ := P77c_ok k w2 L a m b mid e en l2 l3 d3 (false || (decide (e < m ∧ m < en) && d1) || (decide (a < e ∧ e < mid) && d2)) h3 g3 f3
      rw [execC_seq, e1, kSeq_normal, execC_seq, e2, kSeq_normal, e3]
      simp
    rw [callF_eq tbl77, Ytcfijihoepkgeaa.c77]
    have hs' := fun s => hs (k + 7) s hk
    have hh : (mid < m ∧ lo = n - b ∧ hi = mid) ∨ (¬ mid < m ∧ lo = a ∧ hi = m) := by
      by_cases hc : mid < m
      · rw [if_pos hc] at hlo hhi; exact Or.inl ⟨hc, hlo, hhi⟩
      · rw [if_neg hc] at hlo hhi; exact Or.inr ⟨hc, hlo, hhi⟩
    clear hlo hhi hs hbn h1 h2 h3
    rcases hh with ⟨hc, rfl, rfl⟩ | ⟨hc, rfl, rfl⟩
    · have v9 := hbn' hc
      generalize n - b = lo at *
      simp [execC_loop, -kIter_succ, -tidy, w1, w1', w2, w2', v1, v2, v3, v4, v5, v6, v7, v9, hc, shiftBin, IntKind.bits]
      rw [hs' _ (by simp [M77, bk])]
      simp only [kBlk_exit, if_true, kSeq_normal]
      refine Eq.trans ?_ (tail.trans ?_)
      · rfl
      · simp
    · simp [execC_loop, -kIter_succ, -tidy, w1, w1', w2, w2', v1, v2, v3, v4, v5, v6, v7, hc, shiftBin, IntKind.bits]
      rw [hs' _ (by simp [M77, bk])]
      simp only [kBlk_exit, if_true, kSeq_normal]
      refine Eq.trans ?_ (tail.trans ?_)
      · rfl
      · simp
end Go.AM.Ytcfijihoepkgeaa
