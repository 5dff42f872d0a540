/- The law ProfileFlight over the executor: no conditions beyond the arguments' types. -/
import Derived.Test.YtegibclhopenmaaSayProfileFlight
import Derived.Test.YtegibclhopenmaaFmL
namespace Go.AM.Ytegibclhopenmaa
open Go Go.AM
theorem PureProfileFlight : SayProfileFlight := by
  rintro x0 x1 ⟨vs, rfl, hv⟩ ⟨c, rfl, hc⟩
  obtain ⟨nm, w, ar, st, rt, bl, sc, pa, rfl, h1, h2, h3, h4, h5, h6, h7, h8⟩ := flat30 hv
  obtain ⟨H, d, h⟩ := law3 BIG (Nat.le_refl _) nm w ar st rt bl ⟨h1, h2, h3, h4, h5, h6⟩ sc pa h7 h8 c (wf_of hc)
  exact ⟨BIG + 8, H, d, h⟩
end Go.AM.Ytegibclhopenmaa
