/- The walk of shalelaw12.MetaSays: true, for all arguments. -/
import Derived.Test.YtmfkfheakahckaaDoorSaysLong
import Derived.Test.YtmfkfheakahckaaDoorSays00
import Derived.Test.YtmfkfheakahckaaDoorSays01
import Derived.Test.YtmfkfheakahckaaDoorSays10
import Derived.Test.YtmfkfheakahckaaDoorSays11
set_option linter.unusedVariables false
namespace Go.Proofs.YtmfkfheakahckaaDoor
open Go.RowKit
theorem says_walk (m n : Nat → Int) (a ab : Option Addr) (cap capb : Nat) (l b : List (BitVec 8)) (fl : Int) (x : Addr) (w : World) (hS : Sent w (sen x)) (hv : Vw w a cap l) (hb : Vw w ab capb b) :
    Calls Tryd.prog 6 #[rv m, rv n, .slice a l.length cap, .slice ab b.length capb, .int .i64 fl] w (RetT w) := by
  by_cases h1 : 4000 < l.length
  · exact says_long m n a ab cap capb l b fl x w hS hv hb h1
  by_cases h2 : 4000 < b.length
  · exact says_long2 m n a ab cap capb l b fl x w hS hv hb h1 h2
  by_cases hm : May m <;> by_cases hg : Good b l
  · exact says_11 m n a ab cap capb l b fl x w hS hv hb h1 h2 hm hg
  · exact says_10 m n a ab cap capb l b fl x w hS hv hb h1 h2 hm hg
  · exact says_01 m n a ab cap capb l b fl x w hS hv hb h1 h2 hm hg
  · exact says_00 m n a ab cap capb l b fl x w hS hv hb h1 h2 hm hg
end Go.Proofs.YtmfkfheakahckaaDoor
