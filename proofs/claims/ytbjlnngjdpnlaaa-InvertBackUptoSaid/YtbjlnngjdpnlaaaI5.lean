/- The contracts of amanuensisref06.Invert and of the chapter's examples. -/
import Derived.Test.YtbjlnngjdpnlaaaI4
import Derived.Test.YtbjlnngjdpnlaaaI2
namespace Go.Proofs.Ytbjlnngjdpnlaaa
open Go.RowKit Go.Shelf

theorem mayV_prop {xs : List Int} {n : Int} (h : mayV xs n = true) : MayV xs n := by
  rcases Classical.em (MayV xs n) with q | q
  · exact q
  · rw [mayV_false q] at h; cases h

end Go.Proofs.Ytbjlnngjdpnlaaa
