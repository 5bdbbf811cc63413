/- The contracts of occur.Patterns and of what Vars and Metas see. -/
import Derived.Test.YtolpbnkkmkjejaaO1
import Derived.Test.YtolpbnkkmkjejaaO3
import Derived.Maps.Own
import Derived.Maps.OwnSet
import Derived.Maps.Views
namespace Go.Proofs.Ytolpbnkkmkjejaa
open Go.RowKit Go.Shelf Go.Maps

def patP (n : Int) (s : Tm) : Bool := !(s.k == 6) || (patV s.a n).isSome

def patsB (t : Tm) (n : Int) : Bool := (nodesW t n).all fun x => patP x.1 x.2

end Go.Proofs.Ytolpbnkkmkjejaa
