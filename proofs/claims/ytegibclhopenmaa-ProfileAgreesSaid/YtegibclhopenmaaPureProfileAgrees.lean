/- The law ProfileAgrees over the executor: no conditions beyond the arguments' types. -/
import Derived.Test.YtegibclhopenmaaSayProfileAgrees
import Derived.Test.YtegibclhopenmaaFnH
namespace Go.AM.Ytegibclhopenmaa
open Go Go.AM
theorem PureProfileAgrees : SayProfileAgrees := by
  rintro x0 ⟨vs, rfl, hv⟩
  obtain ⟨nm, w, ar, st, rt, bl, sc, pa, rfl, h1, h2, h3, h4, h5, h6, h7, h8⟩ := flat30 hv
  obtain ⟨H, d, h⟩ := law5 BIG (Nat.le_refl _) nm w ar st rt bl ⟨h1, h2, h3, h4, h5, h6⟩ sc pa h7 h8
  exact ⟨BIG + 8, H, d, h⟩
end Go.AM.Ytegibclhopenmaa
