/- The walk of shalelaw12.MetaSays, where the record may be and the bytes are none. -/
import Derived.Test.YtmfkfheakahckaaDoorSaysLow
set_option linter.unusedVariables false
namespace Go.Proofs.YtmfkfheakahckaaDoor
open Go.RowKit
set_option maxHeartbeats 8000000 in
theorem says_10 (m n : Nat → Int) (a ab : Option Addr) (cap capb : Nat) (l b : List (BitVec 8)) (fl : Int) (x : Addr) (w : World) (hS : Sent w (sen x)) (hv : Vw w a cap l) (hb : Vw w ab capb b) (h1 : ¬ 4000 < l.length) (h2 : ¬ 4000 < b.length) (hm : May m) (hg : ¬ Good b l) :
    Calls Tryd.prog 6 #[rv m, rv n, .slice a l.length cap, .slice ab b.length capb, .int .i64 fl] w (RetT w) := by
  have HS := Lib.hid hS
  have V := Lib.hid hv
  have B := Lib.hid hb
  have J0 := Lib.hid (K2.new w m n)
  clear hS hv hb
  have h1I : ¬ (4000 : Int) < (l.length : Int) := by omega
  have h2I : ¬ (4000 : Int) < (b.length : Int) := by omega
  have l1 : Hid (l.length ≤ 100000) := Lib.hid (by omega)
  have b1L : Hid (b.length ≤ 100000) := Lib.hid (by omega)
  have e1 := neq_nn
  have e2 := neq_ss x
  have e3 := eql_nn
  have e4 := eql_ss x
  have e5 := eql_sn x
  have HM := Lib.hid hm
  have HG := Lib.hid hg
  obtain ⟨nb, HN⟩ : ∃ z : Bool, Hid (z = decide (Newer m n)) := ⟨_, Lib.hid rfl⟩
  obtain ⟨al, HA⟩ : ∃ z : Bool, Hid (z = decide (m 4 = 0 ∨ m 4 ≤ fl)) := ⟨_, Lib.hid rfl⟩
  clear hm hg
  go_enter Tryd.func6, Tryd.ntmps6
  go_wp2_with fail
  (with_reducible refine (first_call (J0.out.sent HS.out)).mono ?_)
  rintro e w1 ⟨rfl, b1⟩
  have k1 := J0.out.step b1
  clear b1
  obtain ⟨p0, p1, p2, p3, p4, p5⟩ := k1.1.six
  obtain ⟨q0, q1, q2, q3, q4, q5⟩ := k1.2.1.six
  have J1 := Lib.hid k1
  clear k1
  go_wp2_with fail
  clear p0 p1 p2 p3 p4 p5 q0 q1 q2 q3 q4 q5
  (with_reducible refine (bytes_yes HM.out rfl (J1.out.vw V.out) l1.out (J1.out.sent HS.out)).mono ?_)
  rintro e w2 ⟨g, capx, rfl, hcx, vx, b2, _, _⟩
  have X2 := Lib.hid vx
  clear vx
  have k2 := J1.out.step b2
  clear b2
  obtain ⟨p0, p1, p2, p3, p4, p5⟩ := k2.1.six
  obtain ⟨q0, q1, q2, q3, q4, q5⟩ := k2.2.1.six
  have J2 := Lib.hid k2
  clear k2
  go_wp2_with fail
  clear p0 p1 p2 p3 p4 p5 q0 q1 q2 q3 q4 q5
  (with_reducible refine (rmay_t HM.out _).mono ?_)
  rintro e w3 ⟨rfl, b3⟩
  have k3 := J2.out.step b3
  have X3 : Hid (Vw w3 (some ⟨g, 0, none⟩) capx (recb m l)) := Lib.hid (X2.out.below b3 (Nat.le_refl _))
  clear b3
  obtain ⟨p0, p1, p2, p3, p4, p5⟩ := k3.1.six
  obtain ⟨q0, q1, q2, q3, q4, q5⟩ := k3.2.1.six
  have J3 := Lib.hid k3
  clear k3
  go_wp2_with fail
  clear p0 p1 p2 p3 p4 p5 q0 q1 q2 q3 q4 q5
  (with_reducible refine (may_t HM.out _).mono ?_)
  rintro e w4 ⟨rfl, b4⟩
  have k4 := J3.out.step b4
  have X4 : Hid (Vw w4 (some ⟨g, 0, none⟩) capx (recb m l)) := Lib.hid (X3.out.below b4 (Nat.le_refl _))
  clear b4
  obtain ⟨p0, p1, p2, p3, p4, p5⟩ := k4.1.six
  obtain ⟨q0, q1, q2, q3, q4, q5⟩ := k4.2.1.six
  have J4 := Lib.hid k4
  clear k4
  go_wp2_with fail
  clear p0 p1 p2 p3 p4 p5 q0 q1 q2 q3 q4 q5
  (with_reducible refine (record_view rfl (J4.out.vw V.out) l1.out).mono ?_)
  rintro e w5 ⟨ar, capr, rfl, vr, b5⟩
  have X5 : Hid (Vw w5 (some ⟨g, 0, none⟩) capx (recb m l)) := Lib.hid (X4.out.below b5 (Nat.le_refl _))
  have R5 := Lib.hid vr
  clear vr
  have k5 := J4.out.step b5
  clear b5
  have J5 := Lib.hid k5
  clear k5
  go_wp2_with fail
  (with_reducible refine (bsame_t rfl (recb_length _ _).symm (recb_length _ _).symm X5.out R5.out).mono ?_)
  rintro e w50 ⟨rfl, rfl⟩
  go_wp2_with fail
  (with_reducible refine (open_no HG.out rfl rfl (J5.out.vw B.out) (J5.out.vw V.out) b1L.out l1.out (J5.out.sent HS.out)).mono ?_)
  rintro e w6 ⟨rfl, b6⟩
  have J6 : Hid (K2 w (w6.alloc zobj) m n) := Lib.hid ((J5.out.step b6).step ((Below.refl _ _).alloc (Nat.le_refl _) _))
  clear b6
  go_wp2_with fail
  (with_reducible refine (ropen_no HG.out rfl rfl (J6.out.vw B.out) (J6.out.vw V.out) b1L.out l1.out).mono ?_)
  rintro e w7 ⟨rfl, b7⟩
  have J7 : Hid (K2 w (w7.alloc zobj) m n) := Lib.hid ((J6.out.step b7).step ((Below.refl _ _).alloc (Nat.le_refl _) _))
  have R15 : Hid (Rec (w7.alloc zobj) w6.heap.size (fun _ => 0)) := Lib.hid (((rec_new w6 (fun _ => 0) 23).below b7 (Nat.le_refl _)).kept (World.grownBy_alloc _ zobj none) (by simp))
  have R17 : Hid (Rec (w7.alloc zobj) w7.heap.size (fun _ => 0)) := Lib.hid (rec_new w7 (fun _ => 0) 23)
  clear b7
  go_wp2_with fail
  have KD : Hid (∀ wx, Bel (w7.alloc zobj) wx → (fun wx => wx.cell? ⟨w.heap.size, 0, none⟩ = some (.int .i64 (m 0)) ∧ wx.cell? ⟨w.heap.size, 1, none⟩ = some (.int .i64 (m 1)) ∧ wx.cell? ⟨w.heap.size, 2, none⟩ = some (.int .i64 (m 2)) ∧ wx.cell? ⟨w.heap.size, 3, none⟩ = some (.int .i64 (m 3)) ∧ wx.cell? ⟨w.heap.size, 4, none⟩ = some (.int .i64 (m 4)) ∧ wx.cell? ⟨w.heap.size, 5, none⟩ = some (.int .i64 (m 5)) ∧ wx.cell? ⟨w.heap.size + 1, 0, none⟩ = some (.int .i64 (n 0)) ∧ wx.cell? ⟨w.heap.size + 1, 1, none⟩ = some (.int .i64 (n 1)) ∧ wx.cell? ⟨w.heap.size + 1, 2, none⟩ = some (.int .i64 (n 2)) ∧ wx.cell? ⟨w.heap.size + 1, 3, none⟩ = some (.int .i64 (n 3)) ∧ wx.cell? ⟨w.heap.size + 1, 4, none⟩ = some (.int .i64 (n 4)) ∧ wx.cell? ⟨w.heap.size + 1, 5, none⟩ = some (.int .i64 (n 5)) ∧ wx.cell? ⟨w6.heap.size, 0, none⟩ = some (.int .i64 0) ∧ wx.cell? ⟨w6.heap.size, 1, none⟩ = some (.int .i64 0) ∧ wx.cell? ⟨w6.heap.size, 2, none⟩ = some (.int .i64 0) ∧ wx.cell? ⟨w6.heap.size, 3, none⟩ = some (.int .i64 0) ∧ wx.cell? ⟨w6.heap.size, 4, none⟩ = some (.int .i64 0) ∧ wx.cell? ⟨w6.heap.size, 5, none⟩ = some (.int .i64 0) ∧ wx.cell? ⟨w7.heap.size, 0, none⟩ = some (.int .i64 0) ∧ wx.cell? ⟨w7.heap.size, 1, none⟩ = some (.int .i64 0) ∧ wx.cell? ⟨w7.heap.size, 2, none⟩ = some (.int .i64 0) ∧ wx.cell? ⟨w7.heap.size, 3, none⟩ = some (.int .i64 0) ∧ wx.cell? ⟨w7.heap.size, 4, none⟩ = some (.int .i64 0) ∧ wx.cell? ⟨w7.heap.size, 5, none⟩ = some (.int .i64 0) ∧ wx.cell? ⟨0, 0, none⟩ = some (sen x)) wx) := Lib.hid (fun wx h => by
    obtain ⟨p0, p1, p2, p3, p4, p5⟩ := (J7.out.step h).1.six
    obtain ⟨q0, q1, q2, q3, q4, q5⟩ := (J7.out.step h).2.1.six
    obtain ⟨r0, r1, r2, r3, r4, r5⟩ := (R15.out.below h (Nat.le_refl _)).six
    obtain ⟨s0, s1, s2, s3, s4, s5⟩ := (R17.out.below h (Nat.le_refl _)).six
    exact ⟨p0, p1, p2, p3, p4, p5, q0, q1, q2, q3, q4, q5, r0, r1, r2, r3, r4, r5, s0, s1, s2, s3, s4, s5, ((J7.out.step h).sent HS.out).1⟩)
  have D0 : Bel (w7.alloc zobj) (w7.alloc zobj).drew := (Below.refl _ _).drew
  go_region_held3 (fun wx => wx.cell? ⟨w.heap.size, 0, none⟩ = some (.int .i64 (m 0)) ∧ wx.cell? ⟨w.heap.size, 1, none⟩ = some (.int .i64 (m 1)) ∧ wx.cell? ⟨w.heap.size, 2, none⟩ = some (.int .i64 (m 2)) ∧ wx.cell? ⟨w.heap.size, 3, none⟩ = some (.int .i64 (m 3)) ∧ wx.cell? ⟨w.heap.size, 4, none⟩ = some (.int .i64 (m 4)) ∧ wx.cell? ⟨w.heap.size, 5, none⟩ = some (.int .i64 (m 5)) ∧ wx.cell? ⟨w.heap.size + 1, 0, none⟩ = some (.int .i64 (n 0)) ∧ wx.cell? ⟨w.heap.size + 1, 1, none⟩ = some (.int .i64 (n 1)) ∧ wx.cell? ⟨w.heap.size + 1, 2, none⟩ = some (.int .i64 (n 2)) ∧ wx.cell? ⟨w.heap.size + 1, 3, none⟩ = some (.int .i64 (n 3)) ∧ wx.cell? ⟨w.heap.size + 1, 4, none⟩ = some (.int .i64 (n 4)) ∧ wx.cell? ⟨w.heap.size + 1, 5, none⟩ = some (.int .i64 (n 5)) ∧ wx.cell? ⟨w6.heap.size, 0, none⟩ = some (.int .i64 0) ∧ wx.cell? ⟨w6.heap.size, 1, none⟩ = some (.int .i64 0) ∧ wx.cell? ⟨w6.heap.size, 2, none⟩ = some (.int .i64 0) ∧ wx.cell? ⟨w6.heap.size, 3, none⟩ = some (.int .i64 0) ∧ wx.cell? ⟨w6.heap.size, 4, none⟩ = some (.int .i64 0) ∧ wx.cell? ⟨w6.heap.size, 5, none⟩ = some (.int .i64 0) ∧ wx.cell? ⟨w7.heap.size, 0, none⟩ = some (.int .i64 0) ∧ wx.cell? ⟨w7.heap.size, 1, none⟩ = some (.int .i64 0) ∧ wx.cell? ⟨w7.heap.size, 2, none⟩ = some (.int .i64 0) ∧ wx.cell? ⟨w7.heap.size, 3, none⟩ = some (.int .i64 0) ∧ wx.cell? ⟨w7.heap.size, 4, none⟩ = some (.int .i64 0) ∧ wx.cell? ⟨w7.heap.size, 5, none⟩ = some (.int .i64 0) ∧ wx.cell? ⟨0, 0, none⟩ = some (sen x)) (exact KD.out _ (by assumption))
    (first
      | (go_at_call 12; (with_reducible refine (same_t (Same.refl (fun _ => 0)) _).mono ?_); rintro e y1 ⟨rfl, c1⟩; have D1 : Bel (w7.alloc zobj) y1 := D0.trans (c1.mono D0.size); clear c1 D0)
      | (go_at_call 19; (with_reducible refine (newer_b HN.out _).mono ?_); rintro e y2 ⟨rfl, c2⟩; have D2 : Bel (w7.alloc zobj) y2 := D1.trans (c2.mono D1.size); clear c2 D1)
      | (go_at_call 20; (with_reducible refine (rnewer_b HN.out _).mono ?_); rintro e y3 ⟨rfl, c3⟩; have D3 : Bel (w7.alloc zobj) y3 := D2.trans (c3.mono D2.size); clear c3 D2)
      | (go_at_call 21; (with_reducible refine (alive_b HA.out _).mono ?_); rintro e y4 ⟨rfl, c4⟩; have D4 : Bel (w7.alloc zobj) y4 := D3.trans (c4.mono D3.size); clear c4 D3)
      | (go_at_call 22; (with_reducible refine (ralive_b HA.out _).mono ?_); rintro e y5 ⟨rfl, c5⟩; have D5 : Bel (w7.alloc zobj) y5 := D4.trans (c5.mono D4.size); clear c5 D4))
  have H5 := Lib.hid (J7.out.2.2.1.trans (D5.mono J7.out.2.2.1.size))
  clear D5
  go_wp2
  go_ret
  exact ⟨rfl, H5.out⟩
end Go.Proofs.YtmfkfheakahckaaDoor
