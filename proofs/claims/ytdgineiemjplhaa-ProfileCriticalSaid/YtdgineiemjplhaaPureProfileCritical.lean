/- The law ProfileCritical over the executor: no conditions beyond the arguments' types. -/
import Derived.Test.YtdgineiemjplhaaSayProfileCritical
import Derived.Test.YtdgineiemjplhaaCrN
set_option linter.unusedVariables false
set_option linter.unusedSimpArgs false
namespace Go.AM.Ytdgineiemjplhaa
open Go Go.AM
theorem arcs_of : ∀ {es : List (List V)}, (∀ x ∈ es, S39 x) → ∃ l : List Arc, es = l.map Arc.vs
  | [], _ => ⟨[], rfl⟩
  | e :: es, h => by
    obtain ⟨l, rfl⟩ := arcs_of (es := es) fun x hx => h x (by simp [hx])
    obtain ⟨a, b, c, d, rfl, _⟩ := flat39 (h e (by simp))
    exact ⟨⟨a, b, c, d⟩ :: l, rfl⟩
theorem res_of : ∀ {es : List (List V)}, (∀ x ∈ es, S41 x) → ∃ l : List Rs, es = l.map Rs.vs
  | [], _ => ⟨[], rfl⟩
  | e :: es, h => by
    obtain ⟨l, rfl⟩ := res_of (es := es) fun x hx => h x (by simp [hx])
    obtain ⟨a, b, c, d, rfl, _⟩ := flat41 (h e (by simp))
    exact ⟨⟨a, b, c, d⟩ :: l, rfl⟩
theorem nds_of : ∀ {es : List (List V)}, (∀ x ∈ es, S47 x) → ∃ l : List Nd, es = l.map Nd.vs
  | [], _ => ⟨[], rfl⟩
  | e :: es, h => by
    obtain ⟨l, rfl⟩ := nds_of (es := es) fun x hx => h x (by simp [hx])
    obtain ⟨a, b, rfl, _⟩ := flat47 (h e (by simp))
    exact ⟨⟨a, b⟩ :: l, rfl⟩
theorem ints_of : ∀ {es : List (List V)}, (∀ x ∈ es, S3 x) → ∃ l : List Int, es = l.map ivs
  | [], _ => ⟨[], rfl⟩
  | e :: es, h => by
    obtain ⟨l, rfl⟩ := ints_of (es := es) fun x hx => h x (by simp [hx])
    obtain ⟨a, rfl, _⟩ := h e (by simp)
    exact ⟨a :: l, rfl⟩
theorem sl22 {v : V} (h : S22 [v]) : ∃ l : List Arc, Sl 4 (l.map Arc.vs) v ∧ l.length * 32 ≤ 140737488351232 := by
  rcases h with h | ⟨es, h, h1, _, h2⟩
  · obtain rfl : v = .nils := by simpa using h
    exact ⟨[], .inl ⟨rfl, rfl⟩, by simp⟩
  · obtain rfl : v = .tsl 4 es := by simpa using h
    obtain ⟨l, rfl⟩ := arcs_of h2
    exact ⟨l, .inr rfl, by simpa using h1⟩
theorem sl23 {v : V} (h : S23 [v]) : ∃ l : List Rs, Sl 4 (l.map Rs.vs) v := by
  rcases h with h | ⟨es, h, _, _, h2⟩
  · obtain rfl : v = .nils := by simpa using h
    exact ⟨[], .inl ⟨rfl, rfl⟩⟩
  · obtain rfl : v = .tsl 4 es := by simpa using h
    obtain ⟨l, rfl⟩ := res_of h2
    exact ⟨l, .inr rfl⟩
theorem sl24 {v : V} (h : S24 [v]) : ∃ l : List Nd, Sl 2 (l.map Nd.vs) v ∧ l.length * 16 ≤ 140737488351232 := by
  rcases h with h | ⟨es, h, h1, _, h2⟩
  · obtain rfl : v = .nils := by simpa using h
    exact ⟨[], .inl ⟨rfl, rfl⟩, by simp⟩
  · obtain rfl : v = .tsl 2 es := by simpa using h
    obtain ⟨l, rfl⟩ := nds_of h2
    exact ⟨l, .inr rfl, by simpa using h1⟩
theorem sl27 {v : V} (h : S27 [v]) : ∃ l : List Int, Sl 1 (l.map ivs) v := by
  rcases h with h | ⟨es, h, _, _, h2⟩
  · obtain rfl : v = .nils := by simpa using h
    exact ⟨[], .inl ⟨rfl, rfl⟩⟩
  · obtain rfl : v = .tsl 1 es := by simpa using h
    obtain ⟨l, rfl⟩ := ints_of h2
    exact ⟨l, .inr rfl⟩
theorem PureProfileCritical : SayProfileCritical := by
  rintro x0 x1 ⟨vs0, rfl, h0⟩ ⟨vs1, rfl, h1⟩
  obtain ⟨ins, par, loop, va, vr, vn, rfl, _, _, ha, hr, hn⟩ := flat26 h0
  obtain ⟨kd, ii, vc, rs, rfl, _, _, hc, _⟩ := flat29 h1
  obtain ⟨A, oa, la⟩ := sl22 ha
  obtain ⟨R, or⟩ := sl23 hr
  obtain ⟨N, on, ln⟩ := sl24 hn
  obtain ⟨C, oc⟩ := sl27 hc
  obtain ⟨H, d, hd⟩ := law3 HUGE (Nat.le_refl _) ⟨ins, par, loop, va, vr, vn, A, R, N⟩ ⟨oa, or, on⟩ ⟨kd, ii, vc, rs, C⟩ oc (by simp only; omega) (by simp only; omega)
  exact ⟨HUGE + 6, H, d, hd⟩
end Go.AM.Ytdgineiemjplhaa
