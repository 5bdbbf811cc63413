/- The contracts of amanuensisref06.Invert and of the chapter's examples. -/
import Derived.Test.YteojhbhaocgjoaaI4
import Derived.Test.YteojhbhaocgjoaaI2
namespace Go.Proofs.Yteojhbhaocgjoaa
open Go.RowKit Go.Shelf

theorem mayV_prop {xs : List Int} {n : Int} (h : mayV xs n = true) : MayV xs n := by
  rcases Classical.em (MayV xs n) with q | q
  · exact q
  · rw [mayV_false q] at h; cases h

end Go.Proofs.Yteojhbhaocgjoaa
