/- The walk of shalelaw12.MetaSays, where a slice is too long. -/
import Derived.Test.YtmfkfheakahckaaDoorSaysLow
set_option linter.unusedVariables false
namespace Go.Proofs.YtmfkfheakahckaaDoor
open Go.RowKit
set_option maxHeartbeats 8000000 in
theorem says_long (m n : Nat → Int) (a ab : Option Addr) (cap capb : Nat) (l b : List (BitVec 8)) (fl : Int) (x : Addr) (w : World) (hS : Sent w (sen x)) (hv : Vw w a cap l) (hb : Vw w ab capb b) (h1 : 4000 < l.length) :
    Calls Tryd.prog 6 #[rv m, rv n, .slice a l.length cap, .slice ab b.length capb, .int .i64 fl] w (RetT w) := by
  have HS := Lib.hid hS
  have V := Lib.hid hv
  have B := Lib.hid hb
  have J0 := Lib.hid (K2.new w m n)
  clear hS hv hb
  have h1I : (4000 : Int) < (l.length : Int) := by omega
  go_enter Tryd.func6, Tryd.ntmps6
  go_wp2_with fail
  (with_reducible refine (first_call (J0.out.sent HS.out)).mono ?_)
  rintro e w1 ⟨rfl, b1⟩
  have k1 := J0.out.step b1
  clear b1
  obtain ⟨p0, p1, p2, p3, p4, p5⟩ := k1.1.six
  obtain ⟨q0, q1, q2, q3, q4, q5⟩ := k1.2.1.six
  have J1 := Lib.hid k1
  clear k1
  go_wp2
  go_ret
  exact ⟨rfl, J1.out.2.2.1⟩
set_option maxHeartbeats 8000000 in
theorem says_long2 (m n : Nat → Int) (a ab : Option Addr) (cap capb : Nat) (l b : List (BitVec 8)) (fl : Int) (x : Addr) (w : World) (hS : Sent w (sen x)) (hv : Vw w a cap l) (hb : Vw w ab capb b) (h1 : ¬ 4000 < l.length) (h2 : 4000 < b.length) :
    Calls Tryd.prog 6 #[rv m, rv n, .slice a l.length cap, .slice ab b.length capb, .int .i64 fl] w (RetT w) := by
  have HS := Lib.hid hS
  have V := Lib.hid hv
  have B := Lib.hid hb
  have J0 := Lib.hid (K2.new w m n)
  clear hS hv hb
  have h1I : ¬ (4000 : Int) < (l.length : Int) := by omega
  have h2I : (4000 : Int) < (b.length : Int) := by omega
  go_enter Tryd.func6, Tryd.ntmps6
  go_wp2_with fail
  (with_reducible refine (first_call (J0.out.sent HS.out)).mono ?_)
  rintro e w1 ⟨rfl, b1⟩
  have k1 := J0.out.step b1
  clear b1
  obtain ⟨p0, p1, p2, p3, p4, p5⟩ := k1.1.six
  obtain ⟨q0, q1, q2, q3, q4, q5⟩ := k1.2.1.six
  have J1 := Lib.hid k1
  clear k1
  go_wp2
  go_ret
  exact ⟨rfl, J1.out.2.2.1⟩
end Go.Proofs.YtmfkfheakahckaaDoor
