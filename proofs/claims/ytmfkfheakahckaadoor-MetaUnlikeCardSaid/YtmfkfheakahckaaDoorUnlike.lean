/- The walk of shalelaw12.MetaUnlike: true, for all arguments. -/
import Derived.Test.YtmfkfheakahckaaDoorCalls2
set_option linter.unusedVariables false
namespace Go.Proofs.YtmfkfheakahckaaDoor
open Go.RowKit
set_option maxHeartbeats 4000000 in
theorem unlike_long (m n : Nat → Int) (a ao : Option Addr) (cap capo : Nat) (l o : List (BitVec 8)) (x : Addr) (w : World) (hS : Sent w (sen x)) (hv : Vw w a cap l) (ho : Vw w ao capo o) (h1 : 2000 < l.length) :
    Calls Tryd.prog 5 #[rv m, rv n, .slice a l.length cap, .slice ao o.length capo] w (RetT w) := by
  have HS := Lib.hid hS
  have V := Lib.hid hv
  have O := Lib.hid ho
  have K0 := Lib.hid (K2.new w m n)
  clear hS hv ho
  have h1I : (2000 : Int) < (l.length : Int) := by omega
  go_enter Tryd.func5, Tryd.ntmps5
  go_wp2_with fail
  (with_reducible refine (first_call (K0.out.sent HS.out)).mono ?_)
  rintro e w1 ⟨rfl, b1⟩
  have k1 := K0.out.step b1
  clear b1
  obtain ⟨p0, p1, p2, p3, p4, p5⟩ := k1.1.six
  obtain ⟨q0, q1, q2, q3, q4, q5⟩ := k1.2.1.six
  have K1 := Lib.hid k1
  clear k1
  go_wp2
  go_ret
  exact ⟨rfl, K1.out.2.2.1⟩
set_option maxHeartbeats 4000000 in
theorem unlike_long2 (m n : Nat → Int) (a ao : Option Addr) (cap capo : Nat) (l o : List (BitVec 8)) (x : Addr) (w : World) (hS : Sent w (sen x)) (hv : Vw w a cap l) (ho : Vw w ao capo o) (h1 : ¬ 2000 < l.length) (h2 : 2000 < o.length) :
    Calls Tryd.prog 5 #[rv m, rv n, .slice a l.length cap, .slice ao o.length capo] w (RetT w) := by
  have HS := Lib.hid hS
  have V := Lib.hid hv
  have O := Lib.hid ho
  have K0 := Lib.hid (K2.new w m n)
  clear hS hv ho
  have h1I : ¬ (2000 : Int) < (l.length : Int) := by omega
  have h2I : (2000 : Int) < (o.length : Int) := by omega
  go_enter Tryd.func5, Tryd.ntmps5
  go_wp2_with fail
  (with_reducible refine (first_call (K0.out.sent HS.out)).mono ?_)
  rintro e w1 ⟨rfl, b1⟩
  have k1 := K0.out.step b1
  clear b1
  obtain ⟨p0, p1, p2, p3, p4, p5⟩ := k1.1.six
  obtain ⟨q0, q1, q2, q3, q4, q5⟩ := k1.2.1.six
  have K1 := Lib.hid k1
  clear k1
  go_wp2
  go_ret
  exact ⟨rfl, K1.out.2.2.1⟩
set_option maxHeartbeats 4000000 in
theorem unlike_may00 (m n : Nat → Int) (a ao : Option Addr) (cap capo : Nat) (l o : List (BitVec 8)) (x : Addr) (w : World) (hS : Sent w (sen x)) (hv : Vw w a cap l) (ho : Vw w ao capo o) (h1 : ¬ 2000 < l.length) (h2 : ¬ 2000 < o.length) (hm : ¬ May m) (hn : ¬ May n) :
    Calls Tryd.prog 5 #[rv m, rv n, .slice a l.length cap, .slice ao o.length capo] w (RetT w) := by
  have HS := Lib.hid hS
  have V := Lib.hid hv
  have O := Lib.hid ho
  have K0 := Lib.hid (K2.new w m n)
  clear hS hv ho
  have h1I : ¬ (2000 : Int) < (l.length : Int) := by omega
  have h2I : ¬ (2000 : Int) < (o.length : Int) := by omega
  have l1 : Hid (l.length ≤ 100000) := Lib.hid (by omega)
  have o1 : Hid (o.length ≤ 100000) := Lib.hid (by omega)
  have e1 := neq_nn
  have e2 := neq_sn x
  have HM := Lib.hid hm
  have HN := Lib.hid hn
  clear hm hn
  go_enter Tryd.func5, Tryd.ntmps5
  go_wp2_with fail
  (with_reducible refine (first_call (K0.out.sent HS.out)).mono ?_)
  rintro e w1 ⟨rfl, b1⟩
  have k1 := K0.out.step b1
  clear b1
  obtain ⟨p0, p1, p2, p3, p4, p5⟩ := k1.1.six
  obtain ⟨q0, q1, q2, q3, q4, q5⟩ := k1.2.1.six
  have K1 := Lib.hid k1
  clear k1
  go_wp2_with fail
  clear p0 p1 p2 p3 p4 p5 q0 q1 q2 q3 q4 q5
  (with_reducible refine (bytes_no HM.out rfl (K1.out.vw V.out) l1.out (K1.out.sent HS.out)).mono ?_)
  rintro e w2 ⟨rfl, b2⟩
  have k2 := K1.out.step b2
  clear b2
  obtain ⟨p0, p1, p2, p3, p4, p5⟩ := k2.1.six
  obtain ⟨q0, q1, q2, q3, q4, q5⟩ := k2.2.1.six
  have K2 := Lib.hid k2
  clear k2
  go_wp2_with fail
  clear p0 p1 p2 p3 p4 p5 q0 q1 q2 q3 q4 q5
  (with_reducible refine (bytes_no HN.out rfl (K2.out.vw V.out) l1.out (K2.out.sent HS.out)).mono ?_)
  rintro e w3 ⟨rfl, b3⟩
  have k3 := K2.out.step b3
  clear b3
  obtain ⟨p0, p1, p2, p3, p4, p5⟩ := k3.1.six
  obtain ⟨q0, q1, q2, q3, q4, q5⟩ := k3.2.1.six
  have K3 := Lib.hid k3
  clear k3
  go_wp2_with fail
  clear p0 p1 p2 p3 p4 p5 q0 q1 q2 q3 q4 q5
  (with_reducible refine (bytes_no HM.out rfl (K3.out.vw O.out) o1.out (K3.out.sent HS.out)).mono ?_)
  rintro e w4 ⟨rfl, b4⟩
  have k4 := K3.out.step b4
  clear b4
  obtain ⟨p0, p1, p2, p3, p4, p5⟩ := k4.1.six
  obtain ⟨q0, q1, q2, q3, q4, q5⟩ := k4.2.1.six
  have K4 := Lib.hid k4
  clear k4
  go_wp2
  go_ret
  exact ⟨rfl, K4.out.2.2.1⟩
set_option maxHeartbeats 4000000 in
theorem unlike_may01 (m n : Nat → Int) (a ao : Option Addr) (cap capo : Nat) (l o : List (BitVec 8)) (x : Addr) (w : World) (hS : Sent w (sen x)) (hv : Vw w a cap l) (ho : Vw w ao capo o) (h1 : ¬ 2000 < l.length) (h2 : ¬ 2000 < o.length) (hm : ¬ May m) (hn : May n) :
    Calls Tryd.prog 5 #[rv m, rv n, .slice a l.length cap, .slice ao o.length capo] w (RetT w) := by
  have HS := Lib.hid hS
  have V := Lib.hid hv
  have O := Lib.hid ho
  have K0 := Lib.hid (K2.new w m n)
  clear hS hv ho
  have h1I : ¬ (2000 : Int) < (l.length : Int) := by omega
  have h2I : ¬ (2000 : Int) < (o.length : Int) := by omega
  have l1 : Hid (l.length ≤ 100000) := Lib.hid (by omega)
  have o1 : Hid (o.length ≤ 100000) := Lib.hid (by omega)
  have e1 := neq_nn
  have e2 := neq_sn x
  have HM := Lib.hid hm
  have HN := Lib.hid hn
  clear hm hn
  go_enter Tryd.func5, Tryd.ntmps5
  go_wp2_with fail
  (with_reducible refine (first_call (K0.out.sent HS.out)).mono ?_)
  rintro e w1 ⟨rfl, b1⟩
  have k1 := K0.out.step b1
  clear b1
  obtain ⟨p0, p1, p2, p3, p4, p5⟩ := k1.1.six
  obtain ⟨q0, q1, q2, q3, q4, q5⟩ := k1.2.1.six
  have K1 := Lib.hid k1
  clear k1
  go_wp2_with fail
  clear p0 p1 p2 p3 p4 p5 q0 q1 q2 q3 q4 q5
  (with_reducible refine (bytes_no HM.out rfl (K1.out.vw V.out) l1.out (K1.out.sent HS.out)).mono ?_)
  rintro e w2 ⟨rfl, b2⟩
  have k2 := K1.out.step b2
  clear b2
  obtain ⟨p0, p1, p2, p3, p4, p5⟩ := k2.1.six
  obtain ⟨q0, q1, q2, q3, q4, q5⟩ := k2.2.1.six
  have K2 := Lib.hid k2
  clear k2
  go_wp2_with fail
  clear p0 p1 p2 p3 p4 p5 q0 q1 q2 q3 q4 q5
  (with_reducible refine (bytes_yes HN.out rfl (K2.out.vw V.out) l1.out (K2.out.sent HS.out)).mono ?_)
  rintro e w3 ⟨gy, capy, rfl, hcy, vy, b3, _, _⟩
  have Vy := Lib.hid vy
  clear vy
  have k3 := K2.out.step b3
  clear b3
  obtain ⟨p0, p1, p2, p3, p4, p5⟩ := k3.1.six
  obtain ⟨q0, q1, q2, q3, q4, q5⟩ := k3.2.1.six
  have K3 := Lib.hid k3
  clear k3
  go_wp2_with fail
  clear p0 p1 p2 p3 p4 p5 q0 q1 q2 q3 q4 q5
  (with_reducible refine (bytes_no HM.out rfl (K3.out.vw O.out) o1.out (K3.out.sent HS.out)).mono ?_)
  rintro e w4 ⟨rfl, b4⟩
  have k4 := K3.out.step b4
  clear b4
  obtain ⟨p0, p1, p2, p3, p4, p5⟩ := k4.1.six
  obtain ⟨q0, q1, q2, q3, q4, q5⟩ := k4.2.1.six
  have K4 := Lib.hid k4
  clear k4
  go_wp2
  go_ret
  exact ⟨rfl, K4.out.2.2.1⟩
set_option maxHeartbeats 4000000 in
theorem unlike_may10 (m n : Nat → Int) (a ao : Option Addr) (cap capo : Nat) (l o : List (BitVec 8)) (x : Addr) (w : World) (hS : Sent w (sen x)) (hv : Vw w a cap l) (ho : Vw w ao capo o) (h1 : ¬ 2000 < l.length) (h2 : ¬ 2000 < o.length) (hm : May m) (hn : ¬ May n) :
    Calls Tryd.prog 5 #[rv m, rv n, .slice a l.length cap, .slice ao o.length capo] w (RetT w) := by
  have HS := Lib.hid hS
  have V := Lib.hid hv
  have O := Lib.hid ho
  have K0 := Lib.hid (K2.new w m n)
  clear hS hv ho
  have h1I : ¬ (2000 : Int) < (l.length : Int) := by omega
  have h2I : ¬ (2000 : Int) < (o.length : Int) := by omega
  have l1 : Hid (l.length ≤ 100000) := Lib.hid (by omega)
  have o1 : Hid (o.length ≤ 100000) := Lib.hid (by omega)
  have e1 := neq_nn
  have e2 := neq_sn x
  have HM := Lib.hid hm
  have HN := Lib.hid hn
  clear hm hn
  go_enter Tryd.func5, Tryd.ntmps5
  go_wp2_with fail
  (with_reducible refine (first_call (K0.out.sent HS.out)).mono ?_)
  rintro e w1 ⟨rfl, b1⟩
  have k1 := K0.out.step b1
  clear b1
  obtain ⟨p0, p1, p2, p3, p4, p5⟩ := k1.1.six
  obtain ⟨q0, q1, q2, q3, q4, q5⟩ := k1.2.1.six
  have K1 := Lib.hid k1
  clear k1
  go_wp2_with fail
  clear p0 p1 p2 p3 p4 p5 q0 q1 q2 q3 q4 q5
  (with_reducible refine (bytes_yes HM.out rfl (K1.out.vw V.out) l1.out (K1.out.sent HS.out)).mono ?_)
  rintro e w2 ⟨gx, capx, rfl, hcx, vx, b2, _, _⟩
  have Vx := Lib.hid vx
  clear vx
  have k2 := K1.out.step b2
  clear b2
  obtain ⟨p0, p1, p2, p3, p4, p5⟩ := k2.1.six
  obtain ⟨q0, q1, q2, q3, q4, q5⟩ := k2.2.1.six
  have K2 := Lib.hid k2
  clear k2
  go_wp2_with fail
  clear p0 p1 p2 p3 p4 p5 q0 q1 q2 q3 q4 q5
  (with_reducible refine (bytes_no HN.out rfl (K2.out.vw V.out) l1.out (K2.out.sent HS.out)).mono ?_)
  rintro e w3 ⟨rfl, b3⟩
  have k3 := K2.out.step b3
  clear b3
  obtain ⟨p0, p1, p2, p3, p4, p5⟩ := k3.1.six
  obtain ⟨q0, q1, q2, q3, q4, q5⟩ := k3.2.1.six
  have K3 := Lib.hid k3
  clear k3
  go_wp2_with fail
  clear p0 p1 p2 p3 p4 p5 q0 q1 q2 q3 q4 q5
  (with_reducible refine (bytes_yes HM.out rfl (K3.out.vw O.out) o1.out (K3.out.sent HS.out)).mono ?_)
  rintro e w4 ⟨gz, capz, rfl, hcz, vz, b4, _, _⟩
  have Vz := Lib.hid vz
  clear vz
  have k4 := K3.out.step b4
  clear b4
  obtain ⟨p0, p1, p2, p3, p4, p5⟩ := k4.1.six
  obtain ⟨q0, q1, q2, q3, q4, q5⟩ := k4.2.1.six
  have K4 := Lib.hid k4
  clear k4
  go_wp2
  go_ret
  exact ⟨rfl, K4.out.2.2.1⟩
set_option maxHeartbeats 4000000 in
theorem unlike_all11 (m n : Nat → Int) (a ao : Option Addr) (cap capo : Nat) (l o : List (BitVec 8)) (x : Addr) (w : World) (hS : Sent w (sen x)) (hv : Vw w a cap l) (ho : Vw w ao capo o) (h1 : ¬ 2000 < l.length) (h2 : ¬ 2000 < o.length) (hm : May m) (hn : May n) (hs : Same m n) (hq : Crc.crc l = Crc.crc o) :
    Calls Tryd.prog 5 #[rv m, rv n, .slice a l.length cap, .slice ao o.length capo] w (RetT w) := by
  have HS := Lib.hid hS
  have V := Lib.hid hv
  have O := Lib.hid ho
  have K0 := Lib.hid (K2.new w m n)
  clear hS hv ho
  have h1I : ¬ (2000 : Int) < (l.length : Int) := by omega
  have h2I : ¬ (2000 : Int) < (o.length : Int) := by omega
  have l1 : Hid (l.length ≤ 100000) := Lib.hid (by omega)
  have o1 : Hid (o.length ≤ 100000) := Lib.hid (by omega)
  have e1 := neq_nn
  have e2 := neq_sn x
  have e3 := eql_nn
  have e4 := eql_sn x
  have HM := Lib.hid hm
  have HN := Lib.hid hn
  have HSM := Lib.hid hs
  have HRE : Hid (recb m l = recb n l) := Lib.hid ((rec_inj hm hn l).2 hs)
  have HG : Hid (Good (recb m l) o) := Lib.hid ((good_other hm l o).2 hq)
  have HMID : Hid (((recb m l).drop 24).take 4 = ((recb m o).drop 24).take 4) := Lib.hid (by
    have := mid_eq m m l o
    rw [decide_eq_true hq, beq_iff_eq] at this; exact this)
  clear hm hn hs hq
  go_enter Tryd.func5, Tryd.ntmps5
  go_wp2_with fail
  (with_reducible refine (first_call (K0.out.sent HS.out)).mono ?_)
  rintro e w1 ⟨rfl, b1⟩
  have k1 := K0.out.step b1
  clear b1
  obtain ⟨p0, p1, p2, p3, p4, p5⟩ := k1.1.six
  obtain ⟨q0, q1, q2, q3, q4, q5⟩ := k1.2.1.six
  have K1 := Lib.hid k1
  clear k1
  go_wp2_with fail
  clear p0 p1 p2 p3 p4 p5 q0 q1 q2 q3 q4 q5
  (with_reducible refine (bytes_yes HM.out rfl (K1.out.vw V.out) l1.out (K1.out.sent HS.out)).mono ?_)
  rintro e w2 ⟨gx, capx, rfl, hcx, vx, b2, _, _⟩
  have Vx := Lib.hid vx
  clear vx
  have k2 := K1.out.step b2
  clear b2
  obtain ⟨p0, p1, p2, p3, p4, p5⟩ := k2.1.six
  obtain ⟨q0, q1, q2, q3, q4, q5⟩ := k2.2.1.six
  have K2 := Lib.hid k2
  clear k2
  go_wp2_with fail
  clear p0 p1 p2 p3 p4 p5 q0 q1 q2 q3 q4 q5
  (with_reducible refine (bytes_yes HN.out rfl (K2.out.vw V.out) l1.out (K2.out.sent HS.out)).mono ?_)
  rintro e w3 ⟨gy, capy, rfl, hcy, vy, b3, _, _⟩
  have Vy := Lib.hid vy
  clear vy
  have k3 := K2.out.step b3
  have Vx : Hid (Vw w3 (some ⟨gx, 0, none⟩) capx _) := Vx.out.below b3 (Nat.le_refl _)
  clear b3
  obtain ⟨p0, p1, p2, p3, p4, p5⟩ := k3.1.six
  obtain ⟨q0, q1, q2, q3, q4, q5⟩ := k3.2.1.six
  have K3 := Lib.hid k3
  clear k3
  go_wp2_with fail
  clear p0 p1 p2 p3 p4 p5 q0 q1 q2 q3 q4 q5
  (with_reducible refine (bytes_yes HM.out rfl (K3.out.vw O.out) o1.out (K3.out.sent HS.out)).mono ?_)
  rintro e w4 ⟨gz, capz, rfl, hcz, vz, b4, _, _⟩
  have Vz := Lib.hid vz
  clear vz
  have k4 := K3.out.step b4
  have Vx : Hid (Vw w4 (some ⟨gx, 0, none⟩) capx _) := Vx.out.below b4 (Nat.le_refl _)
  have Vy : Hid (Vw w4 (some ⟨gy, 0, none⟩) capy _) := Vy.out.below b4 (Nat.le_refl _)
  clear b4
  obtain ⟨p0, p1, p2, p3, p4, p5⟩ := k4.1.six
  obtain ⟨q0, q1, q2, q3, q4, q5⟩ := k4.2.1.six
  have K4 := Lib.hid k4
  clear k4
  go_wp2_with fail
  clear p0 p1 p2 p3 p4 p5 q0 q1 q2 q3 q4 q5
  (with_reducible refine (same_t HSM.out _).mono ?_)
  rintro e w5 ⟨rfl, b5⟩
  have k5 := K4.out.step b5
  have Vx : Hid (Vw w5 (some ⟨gx, 0, none⟩) capx _) := Vx.out.below b5 (Nat.le_refl _)
  have Vy : Hid (Vw w5 (some ⟨gy, 0, none⟩) capy _) := Vy.out.below b5 (Nat.le_refl _)
  have Vz : Hid (Vw w5 (some ⟨gz, 0, none⟩) capz _) := Vz.out.below b5 (Nat.le_refl _)
  clear b5
  have K5 := Lib.hid k5
  clear k5
  go_wp2_with fail
  (with_reducible refine (bsame_t HRE.out (recb_length _ _).symm (recb_length _ _).symm Vx.out Vy.out).mono ?_)
  rintro e w6 ⟨rfl, rfl⟩
  have ix : (24 : Int) ≤ 28 := by decide
  have cx : ∀ w', (Instr.slice 24 (.slice (some ⟨gx, 0, none⟩) 32 capx) (some (.int .i64 24)) (some (.int .i64 28)) none).run Tryd.prog w' = .ok (.slice (some ⟨gx, 24, none⟩) 4 (capx - 24)) w' := fun w' => by
    have := run_piece w' (some ⟨gx, 0, none⟩) 32 capx 24 4 (by omega)
    rwa [sla_some _ _ _ (by omega)] at this
  have cz : ∀ w', (Instr.slice 24 (.slice (some ⟨gz, 0, none⟩) 32 capz) (some (.int .i64 24)) (some (.int .i64 28)) none).run Tryd.prog w' = .ok (.slice (some ⟨gz, 24, none⟩) 4 (capz - 24)) w' := fun w' => by
    have := run_piece w' (some ⟨gz, 0, none⟩) 32 capz 24 4 (by omega)
    rwa [sla_some _ _ _ (by omega)] at this
  have Px : Hid (Vw w5 (some ⟨gx, 24, none⟩) (capx - 24) (((recb m l).drop 24).take 4)) := Lib.hid (by
    have := Vx.out.piece 24 4 (by rw [recb_length]; decide)
    rwa [sla_some _ _ _ (by omega)] at this)
  have Pz : Hid (Vw w5 (some ⟨gz, 24, none⟩) (capz - 24) (((recb m o).drop 24).take 4)) := Lib.hid (by
    have := Vz.out.piece 24 4 (by rw [recb_length]; decide)
    rwa [sla_some _ _ _ (by omega)] at this)
  have C : Hid (∀ k, Calls Tryd.prog 13 #[.slice (some ⟨gx, 24, none⟩) 4 (capx - 24), .slice (some ⟨gz, 24, none⟩) 4 (capz - 24)] (w5.drewN k) fun e w' => e = .returned (.bool true) ∧ ∃ j, w' = w5.drewN j) := Lib.hid (fun k =>
    Calls.quiet_of_same ((bsame_t HMID.out (by rw [rec_mid]; rfl) (by rw [rec_mid]; rfl) (Px.out.drewN k) (Pz.out.drewN k)).mono fun _ _ h => ⟨h.1, h.2.symm⟩))
  go_wp2_with fail
  go_quiet ((go_at_call 13; with_reducible exact C.out _))
  clear cx cz
  go_wp2_with fail
  (with_reducible refine (open_yes HG.out (recb_length _ _).symm rfl (Vx.out.drewN _) ((K5.out.vw O.out).drewN _) (by rw [recb_length]; decide) o1.out (S := sen x) ((K5.out.sent HS.out).drewN _)).mono ?_)
  rintro e w7 ⟨rfl, b7⟩
  have B7 : Hid (Below w.heap.size w w7) := Lib.hid ((below_drewN K5.out.2.2.1 _).trans (b7.mono (Nat.le_trans (Nat.le_of_lt (Nat.lt_of_succ_lt K5.out.2.2.2)) (Nat.le_refl _))))
  clear b7
  go_wp2
  go_ret
  exact ⟨rfl, B7.out.alloc B7.out.size _⟩
set_option maxHeartbeats 4000000 in
theorem unlike_all10 (m n : Nat → Int) (a ao : Option Addr) (cap capo : Nat) (l o : List (BitVec 8)) (x : Addr) (w : World) (hS : Sent w (sen x)) (hv : Vw w a cap l) (ho : Vw w ao capo o) (h1 : ¬ 2000 < l.length) (h2 : ¬ 2000 < o.length) (hm : May m) (hn : May n) (hs : Same m n) (hq : ¬ Crc.crc l = Crc.crc o) :
    Calls Tryd.prog 5 #[rv m, rv n, .slice a l.length cap, .slice ao o.length capo] w (RetT w) := by
  have HS := Lib.hid hS
  have V := Lib.hid hv
  have O := Lib.hid ho
  have K0 := Lib.hid (K2.new w m n)
  clear hS hv ho
  have h1I : ¬ (2000 : Int) < (l.length : Int) := by omega
  have h2I : ¬ (2000 : Int) < (o.length : Int) := by omega
  have l1 : Hid (l.length ≤ 100000) := Lib.hid (by omega)
  have o1 : Hid (o.length ≤ 100000) := Lib.hid (by omega)
  have e1 := neq_nn
  have e2 := neq_sn x
  have e3 := eql_nn
  have e4 := eql_sn x
  have HM := Lib.hid hm
  have HN := Lib.hid hn
  have HSM := Lib.hid hs
  have HRE : Hid (recb m l = recb n l) := Lib.hid ((rec_inj hm hn l).2 hs)
  have HG : Hid (¬ Good (recb m l) o) := Lib.hid (fun h => hq ((good_other hm l o).1 h))
  have HMID : Hid (¬ ((recb m l).drop 24).take 4 = ((recb m o).drop 24).take 4) := Lib.hid (by
    have := mid_eq m m l o
    rw [decide_eq_false hq, beq_eq_false_iff_ne] at this; exact this)
  clear hm hn hs hq
  go_enter Tryd.func5, Tryd.ntmps5
  go_wp2_with fail
  (with_reducible refine (first_call (K0.out.sent HS.out)).mono ?_)
  rintro e w1 ⟨rfl, b1⟩
  have k1 := K0.out.step b1
  clear b1
  obtain ⟨p0, p1, p2, p3, p4, p5⟩ := k1.1.six
  obtain ⟨q0, q1, q2, q3, q4, q5⟩ := k1.2.1.six
  have K1 := Lib.hid k1
  clear k1
  go_wp2_with fail
  clear p0 p1 p2 p3 p4 p5 q0 q1 q2 q3 q4 q5
  (with_reducible refine (bytes_yes HM.out rfl (K1.out.vw V.out) l1.out (K1.out.sent HS.out)).mono ?_)
  rintro e w2 ⟨gx, capx, rfl, hcx, vx, b2, _, _⟩
  have Vx := Lib.hid vx
  clear vx
  have k2 := K1.out.step b2
  clear b2
  obtain ⟨p0, p1, p2, p3, p4, p5⟩ := k2.1.six
  obtain ⟨q0, q1, q2, q3, q4, q5⟩ := k2.2.1.six
  have K2 := Lib.hid k2
  clear k2
  go_wp2_with fail
  clear p0 p1 p2 p3 p4 p5 q0 q1 q2 q3 q4 q5
  (with_reducible refine (bytes_yes HN.out rfl (K2.out.vw V.out) l1.out (K2.out.sent HS.out)).mono ?_)
  rintro e w3 ⟨gy, capy, rfl, hcy, vy, b3, _, _⟩
  have Vy := Lib.hid vy
  clear vy
  have k3 := K2.out.step b3
  have Vx : Hid (Vw w3 (some ⟨gx, 0, none⟩) capx _) := Vx.out.below b3 (Nat.le_refl _)
  clear b3
  obtain ⟨p0, p1, p2, p3, p4, p5⟩ := k3.1.six
  obtain ⟨q0, q1, q2, q3, q4, q5⟩ := k3.2.1.six
  have K3 := Lib.hid k3
  clear k3
  go_wp2_with fail
  clear p0 p1 p2 p3 p4 p5 q0 q1 q2 q3 q4 q5
  (with_reducible refine (bytes_yes HM.out rfl (K3.out.vw O.out) o1.out (K3.out.sent HS.out)).mono ?_)
  rintro e w4 ⟨gz, capz, rfl, hcz, vz, b4, _, _⟩
  have Vz := Lib.hid vz
  clear vz
  have k4 := K3.out.step b4
  have Vx : Hid (Vw w4 (some ⟨gx, 0, none⟩) capx _) := Vx.out.below b4 (Nat.le_refl _)
  have Vy : Hid (Vw w4 (some ⟨gy, 0, none⟩) capy _) := Vy.out.below b4 (Nat.le_refl _)
  clear b4
  obtain ⟨p0, p1, p2, p3, p4, p5⟩ := k4.1.six
  obtain ⟨q0, q1, q2, q3, q4, q5⟩ := k4.2.1.six
  have K4 := Lib.hid k4
  clear k4
  go_wp2_with fail
  clear p0 p1 p2 p3 p4 p5 q0 q1 q2 q3 q4 q5
  (with_reducible refine (same_t HSM.out _).mono ?_)
  rintro e w5 ⟨rfl, b5⟩
  have k5 := K4.out.step b5
  have Vx : Hid (Vw w5 (some ⟨gx, 0, none⟩) capx _) := Vx.out.below b5 (Nat.le_refl _)
  have Vy : Hid (Vw w5 (some ⟨gy, 0, none⟩) capy _) := Vy.out.below b5 (Nat.le_refl _)
  have Vz : Hid (Vw w5 (some ⟨gz, 0, none⟩) capz _) := Vz.out.below b5 (Nat.le_refl _)
  clear b5
  have K5 := Lib.hid k5
  clear k5
  go_wp2_with fail
  (with_reducible refine (bsame_t HRE.out (recb_length _ _).symm (recb_length _ _).symm Vx.out Vy.out).mono ?_)
  rintro e w6 ⟨rfl, rfl⟩
  have ix : (24 : Int) ≤ 28 := by decide
  have cx : ∀ w', (Instr.slice 24 (.slice (some ⟨gx, 0, none⟩) 32 capx) (some (.int .i64 24)) (some (.int .i64 28)) none).run Tryd.prog w' = .ok (.slice (some ⟨gx, 24, none⟩) 4 (capx - 24)) w' := fun w' => by
    have := run_piece w' (some ⟨gx, 0, none⟩) 32 capx 24 4 (by omega)
    rwa [sla_some _ _ _ (by omega)] at this
  have cz : ∀ w', (Instr.slice 24 (.slice (some ⟨gz, 0, none⟩) 32 capz) (some (.int .i64 24)) (some (.int .i64 28)) none).run Tryd.prog w' = .ok (.slice (some ⟨gz, 24, none⟩) 4 (capz - 24)) w' := fun w' => by
    have := run_piece w' (some ⟨gz, 0, none⟩) 32 capz 24 4 (by omega)
    rwa [sla_some _ _ _ (by omega)] at this
  have Px : Hid (Vw w5 (some ⟨gx, 24, none⟩) (capx - 24) (((recb m l).drop 24).take 4)) := Lib.hid (by
    have := Vx.out.piece 24 4 (by rw [recb_length]; decide)
    rwa [sla_some _ _ _ (by omega)] at this)
  have Pz : Hid (Vw w5 (some ⟨gz, 24, none⟩) (capz - 24) (((recb m o).drop 24).take 4)) := Lib.hid (by
    have := Vz.out.piece 24 4 (by rw [recb_length]; decide)
    rwa [sla_some _ _ _ (by omega)] at this)
  have C : Hid (∀ k, Calls Tryd.prog 13 #[.slice (some ⟨gx, 24, none⟩) 4 (capx - 24), .slice (some ⟨gz, 24, none⟩) 4 (capz - 24)] (w5.drewN k) fun e w' => e = .returned (.bool false) ∧ ∃ j, w' = w5.drewN j) := Lib.hid (fun k =>
    Calls.quiet_of_same ((bsame_f HMID.out (by rw [rec_mid]; rfl) (by rw [rec_mid]; rfl) (Px.out.drewN k) (Pz.out.drewN k)).mono fun _ _ h => ⟨h.1, h.2.symm⟩))
  go_wp2_with fail
  go_quiet ((go_at_call 13; with_reducible exact C.out _))
  clear cx cz
  go_wp2_with fail
  (with_reducible refine (open_no HG.out (recb_length _ _).symm rfl (Vx.out.drewN _) ((K5.out.vw O.out).drewN _) (by rw [recb_length]; decide) o1.out (S := sen x) ((K5.out.sent HS.out).drewN _)).mono ?_)
  rintro e w7 ⟨rfl, b7⟩
  have B7 : Hid (Below w.heap.size w w7) := Lib.hid ((below_drewN K5.out.2.2.1 _).trans (b7.mono (Nat.le_trans (Nat.le_of_lt (Nat.lt_of_succ_lt K5.out.2.2.2)) (Nat.le_refl _))))
  clear b7
  go_wp2
  go_ret
  exact ⟨rfl, B7.out.alloc B7.out.size _⟩
set_option maxHeartbeats 4000000 in
theorem unlike_all01 (m n : Nat → Int) (a ao : Option Addr) (cap capo : Nat) (l o : List (BitVec 8)) (x : Addr) (w : World) (hS : Sent w (sen x)) (hv : Vw w a cap l) (ho : Vw w ao capo o) (h1 : ¬ 2000 < l.length) (h2 : ¬ 2000 < o.length) (hm : May m) (hn : May n) (hs : ¬ Same m n) (hq : Crc.crc l = Crc.crc o) :
    Calls Tryd.prog 5 #[rv m, rv n, .slice a l.length cap, .slice ao o.length capo] w (RetT w) := by
  have HS := Lib.hid hS
  have V := Lib.hid hv
  have O := Lib.hid ho
  have K0 := Lib.hid (K2.new w m n)
  clear hS hv ho
  have h1I : ¬ (2000 : Int) < (l.length : Int) := by omega
  have h2I : ¬ (2000 : Int) < (o.length : Int) := by omega
  have l1 : Hid (l.length ≤ 100000) := Lib.hid (by omega)
  have o1 : Hid (o.length ≤ 100000) := Lib.hid (by omega)
  have e1 := neq_nn
  have e2 := neq_sn x
  have e3 := eql_nn
  have e4 := eql_sn x
  have HM := Lib.hid hm
  have HN := Lib.hid hn
  have HSM := Lib.hid hs
  have HRE : Hid (¬ recb m l = recb n l) := Lib.hid (fun h => hs ((rec_inj hm hn l).1 h))
  have HG : Hid (Good (recb m l) o) := Lib.hid ((good_other hm l o).2 hq)
  have HMID : Hid (((recb m l).drop 24).take 4 = ((recb m o).drop 24).take 4) := Lib.hid (by
    have := mid_eq m m l o
    rw [decide_eq_true hq, beq_iff_eq] at this; exact this)
  clear hm hn hs hq
  go_enter Tryd.func5, Tryd.ntmps5
  go_wp2_with fail
  (with_reducible refine (first_call (K0.out.sent HS.out)).mono ?_)
  rintro e w1 ⟨rfl, b1⟩
  have k1 := K0.out.step b1
  clear b1
  obtain ⟨p0, p1, p2, p3, p4, p5⟩ := k1.1.six
  obtain ⟨q0, q1, q2, q3, q4, q5⟩ := k1.2.1.six
  have K1 := Lib.hid k1
  clear k1
  go_wp2_with fail
  clear p0 p1 p2 p3 p4 p5 q0 q1 q2 q3 q4 q5
  (with_reducible refine (bytes_yes HM.out rfl (K1.out.vw V.out) l1.out (K1.out.sent HS.out)).mono ?_)
  rintro e w2 ⟨gx, capx, rfl, hcx, vx, b2, _, _⟩
  have Vx := Lib.hid vx
  clear vx
  have k2 := K1.out.step b2
  clear b2
  obtain ⟨p0, p1, p2, p3, p4, p5⟩ := k2.1.six
  obtain ⟨q0, q1, q2, q3, q4, q5⟩ := k2.2.1.six
  have K2 := Lib.hid k2
  clear k2
  go_wp2_with fail
  clear p0 p1 p2 p3 p4 p5 q0 q1 q2 q3 q4 q5
  (with_reducible refine (bytes_yes HN.out rfl (K2.out.vw V.out) l1.out (K2.out.sent HS.out)).mono ?_)
  rintro e w3 ⟨gy, capy, rfl, hcy, vy, b3, _, _⟩
  have Vy := Lib.hid vy
  clear vy
  have k3 := K2.out.step b3
  have Vx : Hid (Vw w3 (some ⟨gx, 0, none⟩) capx _) := Vx.out.below b3 (Nat.le_refl _)
  clear b3
  obtain ⟨p0, p1, p2, p3, p4, p5⟩ := k3.1.six
  obtain ⟨q0, q1, q2, q3, q4, q5⟩ := k3.2.1.six
  have K3 := Lib.hid k3
  clear k3
  go_wp2_with fail
  clear p0 p1 p2 p3 p4 p5 q0 q1 q2 q3 q4 q5
  (with_reducible refine (bytes_yes HM.out rfl (K3.out.vw O.out) o1.out (K3.out.sent HS.out)).mono ?_)
  rintro e w4 ⟨gz, capz, rfl, hcz, vz, b4, _, _⟩
  have Vz := Lib.hid vz
  clear vz
  have k4 := K3.out.step b4
  have Vx : Hid (Vw w4 (some ⟨gx, 0, none⟩) capx _) := Vx.out.below b4 (Nat.le_refl _)
  have Vy : Hid (Vw w4 (some ⟨gy, 0, none⟩) capy _) := Vy.out.below b4 (Nat.le_refl _)
  clear b4
  obtain ⟨p0, p1, p2, p3, p4, p5⟩ := k4.1.six
  obtain ⟨q0, q1, q2, q3, q4, q5⟩ := k4.2.1.six
  have K4 := Lib.hid k4
  clear k4
  go_wp2_with fail
  clear p0 p1 p2 p3 p4 p5 q0 q1 q2 q3 q4 q5
  (with_reducible refine (same_f HSM.out _).mono ?_)
  rintro e w5 ⟨rfl, b5⟩
  have k5 := K4.out.step b5
  have Vx : Hid (Vw w5 (some ⟨gx, 0, none⟩) capx _) := Vx.out.below b5 (Nat.le_refl _)
  have Vy : Hid (Vw w5 (some ⟨gy, 0, none⟩) capy _) := Vy.out.below b5 (Nat.le_refl _)
  have Vz : Hid (Vw w5 (some ⟨gz, 0, none⟩) capz _) := Vz.out.below b5 (Nat.le_refl _)
  clear b5
  have K5 := Lib.hid k5
  clear k5
  go_wp2_with fail
  (with_reducible refine (bsame_f HRE.out (recb_length _ _).symm (recb_length _ _).symm Vx.out Vy.out).mono ?_)
  rintro e w6 ⟨rfl, rfl⟩
  have ix : (24 : Int) ≤ 28 := by decide
  have cx : ∀ w', (Instr.slice 24 (.slice (some ⟨gx, 0, none⟩) 32 capx) (some (.int .i64 24)) (some (.int .i64 28)) none).run Tryd.prog w' = .ok (.slice (some ⟨gx, 24, none⟩) 4 (capx - 24)) w' := fun w' => by
    have := run_piece w' (some ⟨gx, 0, none⟩) 32 capx 24 4 (by omega)
    rwa [sla_some _ _ _ (by omega)] at this
  have cz : ∀ w', (Instr.slice 24 (.slice (some ⟨gz, 0, none⟩) 32 capz) (some (.int .i64 24)) (some (.int .i64 28)) none).run Tryd.prog w' = .ok (.slice (some ⟨gz, 24, none⟩) 4 (capz - 24)) w' := fun w' => by
    have := run_piece w' (some ⟨gz, 0, none⟩) 32 capz 24 4 (by omega)
    rwa [sla_some _ _ _ (by omega)] at this
  have Px : Hid (Vw w5 (some ⟨gx, 24, none⟩) (capx - 24) (((recb m l).drop 24).take 4)) := Lib.hid (by
    have := Vx.out.piece 24 4 (by rw [recb_length]; decide)
    rwa [sla_some _ _ _ (by omega)] at this)
  have Pz : Hid (Vw w5 (some ⟨gz, 24, none⟩) (capz - 24) (((recb m o).drop 24).take 4)) := Lib.hid (by
    have := Vz.out.piece 24 4 (by rw [recb_length]; decide)
    rwa [sla_some _ _ _ (by omega)] at this)
  have C : Hid (∀ k, Calls Tryd.prog 13 #[.slice (some ⟨gx, 24, none⟩) 4 (capx - 24), .slice (some ⟨gz, 24, none⟩) 4 (capz - 24)] (w5.drewN k) fun e w' => e = .returned (.bool true) ∧ ∃ j, w' = w5.drewN j) := Lib.hid (fun k =>
    Calls.quiet_of_same ((bsame_t HMID.out (by rw [rec_mid]; rfl) (by rw [rec_mid]; rfl) (Px.out.drewN k) (Pz.out.drewN k)).mono fun _ _ h => ⟨h.1, h.2.symm⟩))
  go_wp2_with fail
  go_quiet ((go_at_call 13; with_reducible exact C.out _))
  clear cx cz
  go_wp2_with fail
  (with_reducible refine (open_yes HG.out (recb_length _ _).symm rfl (Vx.out.drewN _) ((K5.out.vw O.out).drewN _) (by rw [recb_length]; decide) o1.out (S := sen x) ((K5.out.sent HS.out).drewN _)).mono ?_)
  rintro e w7 ⟨rfl, b7⟩
  have B7 : Hid (Below w.heap.size w w7) := Lib.hid ((below_drewN K5.out.2.2.1 _).trans (b7.mono (Nat.le_trans (Nat.le_of_lt (Nat.lt_of_succ_lt K5.out.2.2.2)) (Nat.le_refl _))))
  clear b7
  go_wp2
  go_ret
  exact ⟨rfl, B7.out.alloc B7.out.size _⟩
set_option maxHeartbeats 4000000 in
theorem unlike_all00 (m n : Nat → Int) (a ao : Option Addr) (cap capo : Nat) (l o : List (BitVec 8)) (x : Addr) (w : World) (hS : Sent w (sen x)) (hv : Vw w a cap l) (ho : Vw w ao capo o) (h1 : ¬ 2000 < l.length) (h2 : ¬ 2000 < o.length) (hm : May m) (hn : May n) (hs : ¬ Same m n) (hq : ¬ Crc.crc l = Crc.crc o) :
    Calls Tryd.prog 5 #[rv m, rv n, .slice a l.length cap, .slice ao o.length capo] w (RetT w) := by
  have HS := Lib.hid hS
  have V := Lib.hid hv
  have O := Lib.hid ho
  have K0 := Lib.hid (K2.new w m n)
  clear hS hv ho
  have h1I : ¬ (2000 : Int) < (l.length : Int) := by omega
  have h2I : ¬ (2000 : Int) < (o.length : Int) := by omega
  have l1 : Hid (l.length ≤ 100000) := Lib.hid (by omega)
  have o1 : Hid (o.length ≤ 100000) := Lib.hid (by omega)
  have e1 := neq_nn
  have e2 := neq_sn x
  have e3 := eql_nn
  have e4 := eql_sn x
  have HM := Lib.hid hm
  have HN := Lib.hid hn
  have HSM := Lib.hid hs
  have HRE : Hid (¬ recb m l = recb n l) := Lib.hid (fun h => hs ((rec_inj hm hn l).1 h))
  have HG : Hid (¬ Good (recb m l) o) := Lib.hid (fun h => hq ((good_other hm l o).1 h))
  have HMID : Hid (¬ ((recb m l).drop 24).take 4 = ((recb m o).drop 24).take 4) := Lib.hid (by
    have := mid_eq m m l o
    rw [decide_eq_false hq, beq_eq_false_iff_ne] at this; exact this)
  clear hm hn hs hq
  go_enter Tryd.func5, Tryd.ntmps5
  go_wp2_with fail
  (with_reducible refine (first_call (K0.out.sent HS.out)).mono ?_)
  rintro e w1 ⟨rfl, b1⟩
  have k1 := K0.out.step b1
  clear b1
  obtain ⟨p0, p1, p2, p3, p4, p5⟩ := k1.1.six
  obtain ⟨q0, q1, q2, q3, q4, q5⟩ := k1.2.1.six
  have K1 := Lib.hid k1
  clear k1
  go_wp2_with fail
  clear p0 p1 p2 p3 p4 p5 q0 q1 q2 q3 q4 q5
  (with_reducible refine (bytes_yes HM.out rfl (K1.out.vw V.out) l1.out (K1.out.sent HS.out)).mono ?_)
  rintro e w2 ⟨gx, capx, rfl, hcx, vx, b2, _, _⟩
  have Vx := Lib.hid vx
  clear vx
  have k2 := K1.out.step b2
  clear b2
  obtain ⟨p0, p1, p2, p3, p4, p5⟩ := k2.1.six
  obtain ⟨q0, q1, q2, q3, q4, q5⟩ := k2.2.1.six
  have K2 := Lib.hid k2
  clear k2
  go_wp2_with fail
  clear p0 p1 p2 p3 p4 p5 q0 q1 q2 q3 q4 q5
  (with_reducible refine (bytes_yes HN.out rfl (K2.out.vw V.out) l1.out (K2.out.sent HS.out)).mono ?_)
  rintro e w3 ⟨gy, capy, rfl, hcy, vy, b3, _, _⟩
  have Vy := Lib.hid vy
  clear vy
  have k3 := K2.out.step b3
  have Vx : Hid (Vw w3 (some ⟨gx, 0, none⟩) capx _) := Vx.out.below b3 (Nat.le_refl _)
  clear b3
  obtain ⟨p0, p1, p2, p3, p4, p5⟩ := k3.1.six
  obtain ⟨q0, q1, q2, q3, q4, q5⟩ := k3.2.1.six
  have K3 := Lib.hid k3
  clear k3
  go_wp2_with fail
  clear p0 p1 p2 p3 p4 p5 q0 q1 q2 q3 q4 q5
  (with_reducible refine (bytes_yes HM.out rfl (K3.out.vw O.out) o1.out (K3.out.sent HS.out)).mono ?_)
  rintro e w4 ⟨gz, capz, rfl, hcz, vz, b4, _, _⟩
  have Vz := Lib.hid vz
  clear vz
  have k4 := K3.out.step b4
  have Vx : Hid (Vw w4 (some ⟨gx, 0, none⟩) capx _) := Vx.out.below b4 (Nat.le_refl _)
  have Vy : Hid (Vw w4 (some ⟨gy, 0, none⟩) capy _) := Vy.out.below b4 (Nat.le_refl _)
  clear b4
  obtain ⟨p0, p1, p2, p3, p4, p5⟩ := k4.1.six
  obtain ⟨q0, q1, q2, q3, q4, q5⟩ := k4.2.1.six
  have K4 := Lib.hid k4
  clear k4
  go_wp2_with fail
  clear p0 p1 p2 p3 p4 p5 q0 q1 q2 q3 q4 q5
  (with_reducible refine (same_f HSM.out _).mono ?_)
  rintro e w5 ⟨rfl, b5⟩
  have k5 := K4.out.step b5
  have Vx : Hid (Vw w5 (some ⟨gx, 0, none⟩) capx _) := Vx.out.below b5 (Nat.le_refl _)
  have Vy : Hid (Vw w5 (some ⟨gy, 0, none⟩) capy _) := Vy.out.below b5 (Nat.le_refl _)
  have Vz : Hid (Vw w5 (some ⟨gz, 0, none⟩) capz _) := Vz.out.below b5 (Nat.le_refl _)
  clear b5
  have K5 := Lib.hid k5
  clear k5
  go_wp2_with fail
  (with_reducible refine (bsame_f HRE.out (recb_length _ _).symm (recb_length _ _).symm Vx.out Vy.out).mono ?_)
  rintro e w6 ⟨rfl, rfl⟩
  have ix : (24 : Int) ≤ 28 := by decide
  have cx : ∀ w', (Instr.slice 24 (.slice (some ⟨gx, 0, none⟩) 32 capx) (some (.int .i64 24)) (some (.int .i64 28)) none).run Tryd.prog w' = .ok (.slice (some ⟨gx, 24, none⟩) 4 (capx - 24)) w' := fun w' => by
    have := run_piece w' (some ⟨gx, 0, none⟩) 32 capx 24 4 (by omega)
    rwa [sla_some _ _ _ (by omega)] at this
  have cz : ∀ w', (Instr.slice 24 (.slice (some ⟨gz, 0, none⟩) 32 capz) (some (.int .i64 24)) (some (.int .i64 28)) none).run Tryd.prog w' = .ok (.slice (some ⟨gz, 24, none⟩) 4 (capz - 24)) w' := fun w' => by
    have := run_piece w' (some ⟨gz, 0, none⟩) 32 capz 24 4 (by omega)
    rwa [sla_some _ _ _ (by omega)] at this
  have Px : Hid (Vw w5 (some ⟨gx, 24, none⟩) (capx - 24) (((recb m l).drop 24).take 4)) := Lib.hid (by
    have := Vx.out.piece 24 4 (by rw [recb_length]; decide)
    rwa [sla_some _ _ _ (by omega)] at this)
  have Pz : Hid (Vw w5 (some ⟨gz, 24, none⟩) (capz - 24) (((recb m o).drop 24).take 4)) := Lib.hid (by
    have := Vz.out.piece 24 4 (by rw [recb_length]; decide)
    rwa [sla_some _ _ _ (by omega)] at this)
  have C : Hid (∀ k, Calls Tryd.prog 13 #[.slice (some ⟨gx, 24, none⟩) 4 (capx - 24), .slice (some ⟨gz, 24, none⟩) 4 (capz - 24)] (w5.drewN k) fun e w' => e = .returned (.bool false) ∧ ∃ j, w' = w5.drewN j) := Lib.hid (fun k =>
    Calls.quiet_of_same ((bsame_f HMID.out (by rw [rec_mid]; rfl) (by rw [rec_mid]; rfl) (Px.out.drewN k) (Pz.out.drewN k)).mono fun _ _ h => ⟨h.1, h.2.symm⟩))
  go_wp2_with fail
  go_quiet ((go_at_call 13; with_reducible exact C.out _))
  clear cx cz
  go_wp2_with fail
  (with_reducible refine (open_no HG.out (recb_length _ _).symm rfl (Vx.out.drewN _) ((K5.out.vw O.out).drewN _) (by rw [recb_length]; decide) o1.out (S := sen x) ((K5.out.sent HS.out).drewN _)).mono ?_)
  rintro e w7 ⟨rfl, b7⟩
  have B7 : Hid (Below w.heap.size w w7) := Lib.hid ((below_drewN K5.out.2.2.1 _).trans (b7.mono (Nat.le_trans (Nat.le_of_lt (Nat.lt_of_succ_lt K5.out.2.2.2)) (Nat.le_refl _))))
  clear b7
  go_wp2
  go_ret
  exact ⟨rfl, B7.out.alloc B7.out.size _⟩
theorem unlike_walk (m n : Nat → Int) (a ao : Option Addr) (cap capo : Nat) (l o : List (BitVec 8)) (x : Addr) (w : World) (hS : Sent w (sen x)) (hv : Vw w a cap l) (ho : Vw w ao capo o) :
    Calls Tryd.prog 5 #[rv m, rv n, .slice a l.length cap, .slice ao o.length capo] w (RetT w) := by
  by_cases h1 : 2000 < l.length
  · exact unlike_long m n a ao cap capo l o x w hS hv ho h1
  by_cases h2 : 2000 < o.length
  · exact unlike_long2 m n a ao cap capo l o x w hS hv ho h1 h2
  by_cases hm : May m <;> by_cases hn : May n
  · by_cases hs : Same m n <;> by_cases hq : Crc.crc l = Crc.crc o
    · exact unlike_all11 m n a ao cap capo l o x w hS hv ho h1 h2 hm hn hs hq
    · exact unlike_all10 m n a ao cap capo l o x w hS hv ho h1 h2 hm hn hs hq
    · exact unlike_all01 m n a ao cap capo l o x w hS hv ho h1 h2 hm hn hs hq
    · exact unlike_all00 m n a ao cap capo l o x w hS hv ho h1 h2 hm hn hs hq
  · exact unlike_may10 m n a ao cap capo l o x w hS hv ho h1 h2 hm hn
  · exact unlike_may01 m n a ao cap capo l o x w hS hv ho h1 h2 hm hn
  · exact unlike_may00 m n a ao cap capo l o x w hS hv ho h1 h2 hm hn
end Go.Proofs.YtmfkfheakahckaaDoor
