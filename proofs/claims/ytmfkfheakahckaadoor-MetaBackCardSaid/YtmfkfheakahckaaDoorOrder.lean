/- The walk of shalelaw12.MetaOrder: true, for all arguments. -/
import Derived.Test.YtmfkfheakahckaaDoorFirst
set_option linter.unusedVariables false
namespace Go.Proofs.YtmfkfheakahckaaDoor
open Go.RowKit
theorem Rec.six {w : World} {b : Nat} {m : Nat → Int} (h : Rec w b m) : w.cell? ⟨b, 0, none⟩ = some (.int .i64 (m 0)) ∧ w.cell? ⟨b, 1, none⟩ = some (.int .i64 (m 1)) ∧ w.cell? ⟨b, 2, none⟩ = some (.int .i64 (m 2)) ∧ w.cell? ⟨b, 3, none⟩ = some (.int .i64 (m 3)) ∧ w.cell? ⟨b, 4, none⟩ = some (.int .i64 (m 4)) ∧ w.cell? ⟨b, 5, none⟩ = some (.int .i64 (m 5)) :=
  ⟨h 0 (by decide), h 1 (by decide), h 2 (by decide), h 3 (by decide), h 4 (by decide), h 5 (by decide)⟩
theorem newer_t {m n : Nat → Int} (h : Newer m n) (w : World) : Calls Tryd.prog 19 #[rv m, rv n] w fun r w' => r = .returned (.bool true) ∧ Below w.heap.size w w' :=
  (newer_any m n w).mono fun e w' h' => by rw [decide_eq_true h] at h'; exact h'
theorem newer_f {m n : Nat → Int} (h : ¬ Newer m n) (w : World) : Calls Tryd.prog 19 #[rv m, rv n] w fun r w' => r = .returned (.bool false) ∧ Below w.heap.size w w' :=
  (newer_any m n w).mono fun e w' h' => by rw [decide_eq_false h] at h'; exact h'
theorem Newer.asymm {m n : Nat → Int} (h : Newer m n) : ¬ Newer n m := fun k => by unfold Newer at h k; omega
theorem Newer.trans {m n k : Nat → Int} (h : Newer m n) (g : Newer n k) : Newer m k := by unfold Newer at *; omega
/-- three records in the call's first blocks -/
def K3 (w wx : World) (a b c : Nat → Int) : Prop := Rec wx w.heap.size a ∧ Rec wx (w.heap.size + 1) b ∧ Rec wx (w.heap.size + 1 + 1) c ∧ Below w.heap.size w wx ∧ w.heap.size + 1 + 1 < wx.heap.size
theorem K3.step {w wx w' : World} {a b c : Nat → Int} (h : K3 w wx a b c) (g : Below wx.heap.size wx w') : K3 w w' a b c := by
  obtain ⟨h1, h2, h3, h4, h5⟩ := h
  exact ⟨h1.far g (by omega), h2.far g (by omega), h3.far g h5, h4.trans (g.mono (by omega)), Nat.lt_of_lt_of_le h5 g.size⟩
theorem K3.new (w : World) (a b c : Nat → Int) : K3 w (((w.alloc (mobj a)).alloc (mobj b)).alloc (mobj c)) a b c := by
  refine ⟨((rec_new w a 23).kept (World.grownBy_alloc _ (mobj b) none) (by simp)).kept (World.grownBy_alloc _ (mobj c) none) (by simp), ?_, ?_, (((Below.refl _ _).alloc (Nat.le_refl _) _).alloc (by simp) _).alloc (by simp; omega) _, by simp⟩
  · have := (rec_new (w.alloc (mobj a)) b 23).kept (World.grownBy_alloc _ (mobj c) none) (by simp)
    simpa using this
  · have := rec_new ((w.alloc (mobj a)).alloc (mobj b)) c 23
    simpa using this
def Ret (P : World → Prop) (v : Value) (e : Ending) (w' : World) : Prop := e = .returned v ∧ P w'
theorem k3_newer_t {w wx : World} {a b c m n : Nat → Int} (h : Newer m n) (k : K3 w wx a b c) : Calls Tryd.prog 19 #[rv m, rv n] wx (Ret (fun w' => K3 w w' a b c) (.bool true)) :=
  (newer_t h wx).mono fun _ _ h' => ⟨h'.1, k.step h'.2⟩
theorem k3_newer_f {w wx : World} {a b c m n : Nat → Int} (h : ¬ Newer m n) (k : K3 w wx a b c) : Calls Tryd.prog 19 #[rv m, rv n] wx (Ret (fun w' => K3 w w' a b c) (.bool false)) :=
  (newer_f h wx).mono fun _ _ h' => ⟨h'.1, k.step h'.2⟩
theorem k3_alive_t {w wx : World} {a b c m : Nat → Int} {n : Int} (h : m 4 = 0 ∨ m 4 ≤ n) (k : K3 w wx a b c) : Calls Tryd.prog 21 #[rv m, .int .i64 n] wx (Ret (fun w' => K3 w w' a b c) (.bool true)) :=
  (alive_any m n wx).mono fun _ _ h' => ⟨by rw [h'.1, decide_eq_true h], k.step h'.2⟩
theorem k3_alive_f {w wx : World} {a b c m : Nat → Int} {n : Int} (h : ¬ (m 4 = 0 ∨ m 4 ≤ n)) (k : K3 w wx a b c) : Calls Tryd.prog 21 #[rv m, .int .i64 n] wx (Ret (fun w' => K3 w w' a b c) (.bool false)) :=
  (alive_any m n wx).mono fun _ _ h' => ⟨by rw [h'.1, decide_eq_false h], k.step h'.2⟩
theorem k3_first {w wx : World} {a b c : Nat → Int} {x : Addr} (hS : Sent w (sen x)) (k : K3 w wx a b c) : Calls Tryd.prog 8 #[] wx (Ret (fun w' => K3 w w' a b c) (.bool true)) :=
  (first_any x wx (hS.below k.2.2.2.1 hS.2)).mono fun _ _ h' => ⟨h'.1, k.step h'.2⟩
def RetT (w : World) (e : Ending) (w' : World) : Prop := e = .returned (.bool true) ∧ Below w.heap.size w w'
set_option maxHeartbeats 2000000 in
theorem order_ab_ett (a b c : Nat → Int) (fl mo : Int) (x : Addr) (w : World) (hS : Sent w (sen x)) (hab : Newer a b) (hs : a 2 = b 2) (hbc : Newer b c) (ha : a 4 = 0 ∨ a 4 ≤ fl) :
    Calls Tryd.prog 7 #[rv a, rv b, rv c, .int .i64 fl, .int .i64 mo] w (RetT w) := by
  have HS := Lib.hid hS
  have K0 := Lib.hid (K3.new w a b c)
  clear hS
  have HAB := Lib.hid hab
  have HBA := Lib.hid hab.asymm
  have HBC := Lib.hid hbc
  have HAC := Lib.hid (hab.trans hbc)
  have g2 : (a 2 == b 2) = true := by simp [hs]
  have g3 : (a 3 == b 3) = false := by unfold Newer at hab; simp; omega
  clear hab hs hbc
  have HA := Lib.hid ha
  clear ha
  go_enter Tryd.func7, Tryd.ntmps7
  go_wp2_with fail
  (with_reducible refine (k3_first HS.out K0.out).mono ?_)
  rintro e w1 ⟨rfl, k1⟩
  obtain ⟨p0, p1, p2, p3, p4, p5⟩ := k1.1.six
  obtain ⟨q0, q1, q2, q3, q4, q5⟩ := k1.2.1.six
  obtain ⟨r0, r1, r2, r3, r4, r5⟩ := k1.2.2.1.six
  have K1 := Lib.hid k1
  clear k1
  go_wp2_with fail
  clear p0 p1 p2 p3 p4 p5 q0 q1 q2 q3 q4 q5 r0 r1 r2 r3 r4 r5
  (with_reducible refine (k3_newer_t HAB.out K1.out).mono ?_)
  rintro e w2 ⟨rfl, k2⟩
  obtain ⟨p0, p1, p2, p3, p4, p5⟩ := k2.1.six
  obtain ⟨q0, q1, q2, q3, q4, q5⟩ := k2.2.1.six
  obtain ⟨r0, r1, r2, r3, r4, r5⟩ := k2.2.2.1.six
  have K2 := Lib.hid k2
  clear k2
  go_wp2_with fail
  clear p0 p1 p2 p3 p4 p5 q0 q1 q2 q3 q4 q5 r0 r1 r2 r3 r4 r5
  (with_reducible refine (k3_newer_f HBA.out K2.out).mono ?_)
  rintro e w3 ⟨rfl, k3⟩
  obtain ⟨p0, p1, p2, p3, p4, p5⟩ := k3.1.six
  obtain ⟨q0, q1, q2, q3, q4, q5⟩ := k3.2.1.six
  obtain ⟨r0, r1, r2, r3, r4, r5⟩ := k3.2.2.1.six
  have K3 := Lib.hid k3
  clear k3
  go_wp2_with fail
  clear p0 p1 p2 p3 p4 p5 q0 q1 q2 q3 q4 q5 r0 r1 r2 r3 r4 r5
  (with_reducible refine (k3_newer_t HBC.out K3.out).mono ?_)
  rintro e w4 ⟨rfl, k4⟩
  obtain ⟨p0, p1, p2, p3, p4, p5⟩ := k4.1.six
  obtain ⟨q0, q1, q2, q3, q4, q5⟩ := k4.2.1.six
  obtain ⟨r0, r1, r2, r3, r4, r5⟩ := k4.2.2.1.six
  have K4 := Lib.hid k4
  clear k4
  go_wp2_with fail
  clear p0 p1 p2 p3 p4 p5 q0 q1 q2 q3 q4 q5 r0 r1 r2 r3 r4 r5
  (with_reducible refine (k3_newer_t HAC.out K4.out).mono ?_)
  rintro e w5 ⟨rfl, k5⟩
  obtain ⟨p0, p1, p2, p3, p4, p5⟩ := k5.1.six
  obtain ⟨q0, q1, q2, q3, q4, q5⟩ := k5.2.1.six
  obtain ⟨r0, r1, r2, r3, r4, r5⟩ := k5.2.2.1.six
  have K5 := Lib.hid k5
  clear k5
  go_wp2_with fail
  clear p0 p1 p2 p3 p4 p5 q0 q1 q2 q3 q4 q5 r0 r1 r2 r3 r4 r5
  (with_reducible refine (k3_alive_t HA.out K5.out).mono ?_)
  rintro e w6 ⟨rfl, k6⟩
  obtain ⟨p0, p1, p2, p3, p4, p5⟩ := k6.1.six
  obtain ⟨q0, q1, q2, q3, q4, q5⟩ := k6.2.1.six
  obtain ⟨r0, r1, r2, r3, r4, r5⟩ := k6.2.2.1.six
  have K6 := Lib.hid k6
  clear k6
  go_wp2_with fail
  all_goals
    clear p0 p1 p2 p3 p4 p5 q0 q1 q2 q3 q4 q5 r0 r1 r2 r3 r4 r5
    (with_reducible refine (k3_alive_t (by have := HA.out; omega) K6.out).mono ?_)
    rintro e w7 ⟨rfl, k7⟩
    have K7 := Lib.hid k7
    clear k7
    go_wp2
    go_ret
    exact ⟨rfl, K7.out.2.2.2.1⟩
set_option maxHeartbeats 2000000 in
theorem order_ab_eft (a b c : Nat → Int) (fl mo : Int) (x : Addr) (w : World) (hS : Sent w (sen x)) (hab : Newer a b) (hs : a 2 = b 2) (hbc : ¬ Newer b c) (ha : a 4 = 0 ∨ a 4 ≤ fl) :
    Calls Tryd.prog 7 #[rv a, rv b, rv c, .int .i64 fl, .int .i64 mo] w (RetT w) := by
  have HS := Lib.hid hS
  have K0 := Lib.hid (K3.new w a b c)
  clear hS
  have HAB := Lib.hid hab
  have HBA := Lib.hid hab.asymm
  have HBC := Lib.hid hbc
  have g2 : (a 2 == b 2) = true := by simp [hs]
  have g3 : (a 3 == b 3) = false := by unfold Newer at hab; simp; omega
  clear hab hs hbc
  have HA := Lib.hid ha
  clear ha
  go_enter Tryd.func7, Tryd.ntmps7
  go_wp2_with fail
  (with_reducible refine (k3_first HS.out K0.out).mono ?_)
  rintro e w1 ⟨rfl, k1⟩
  obtain ⟨p0, p1, p2, p3, p4, p5⟩ := k1.1.six
  obtain ⟨q0, q1, q2, q3, q4, q5⟩ := k1.2.1.six
  obtain ⟨r0, r1, r2, r3, r4, r5⟩ := k1.2.2.1.six
  have K1 := Lib.hid k1
  clear k1
  go_wp2_with fail
  clear p0 p1 p2 p3 p4 p5 q0 q1 q2 q3 q4 q5 r0 r1 r2 r3 r4 r5
  (with_reducible refine (k3_newer_t HAB.out K1.out).mono ?_)
  rintro e w2 ⟨rfl, k2⟩
  obtain ⟨p0, p1, p2, p3, p4, p5⟩ := k2.1.six
  obtain ⟨q0, q1, q2, q3, q4, q5⟩ := k2.2.1.six
  obtain ⟨r0, r1, r2, r3, r4, r5⟩ := k2.2.2.1.six
  have K2 := Lib.hid k2
  clear k2
  go_wp2_with fail
  clear p0 p1 p2 p3 p4 p5 q0 q1 q2 q3 q4 q5 r0 r1 r2 r3 r4 r5
  (with_reducible refine (k3_newer_f HBA.out K2.out).mono ?_)
  rintro e w3 ⟨rfl, k3⟩
  obtain ⟨p0, p1, p2, p3, p4, p5⟩ := k3.1.six
  obtain ⟨q0, q1, q2, q3, q4, q5⟩ := k3.2.1.six
  obtain ⟨r0, r1, r2, r3, r4, r5⟩ := k3.2.2.1.six
  have K3 := Lib.hid k3
  clear k3
  go_wp2_with fail
  clear p0 p1 p2 p3 p4 p5 q0 q1 q2 q3 q4 q5 r0 r1 r2 r3 r4 r5
  (with_reducible refine (k3_newer_f HBC.out K3.out).mono ?_)
  rintro e w4 ⟨rfl, k4⟩
  obtain ⟨p0, p1, p2, p3, p4, p5⟩ := k4.1.six
  obtain ⟨q0, q1, q2, q3, q4, q5⟩ := k4.2.1.six
  obtain ⟨r0, r1, r2, r3, r4, r5⟩ := k4.2.2.1.six
  have K4 := Lib.hid k4
  clear k4
  go_wp2_with fail
  clear p0 p1 p2 p3 p4 p5 q0 q1 q2 q3 q4 q5 r0 r1 r2 r3 r4 r5
  (with_reducible refine (k3_alive_t HA.out K4.out).mono ?_)
  rintro e w5 ⟨rfl, k5⟩
  obtain ⟨p0, p1, p2, p3, p4, p5⟩ := k5.1.six
  obtain ⟨q0, q1, q2, q3, q4, q5⟩ := k5.2.1.six
  obtain ⟨r0, r1, r2, r3, r4, r5⟩ := k5.2.2.1.six
  have K5 := Lib.hid k5
  clear k5
  go_wp2_with fail
  all_goals
    clear p0 p1 p2 p3 p4 p5 q0 q1 q2 q3 q4 q5 r0 r1 r2 r3 r4 r5
    (with_reducible refine (k3_alive_t (by have := HA.out; omega) K5.out).mono ?_)
    rintro e w6 ⟨rfl, k6⟩
    have K6 := Lib.hid k6
    clear k6
    go_wp2
    go_ret
    exact ⟨rfl, K6.out.2.2.2.1⟩
set_option maxHeartbeats 2000000 in
theorem order_ab_ntt (a b c : Nat → Int) (fl mo : Int) (x : Addr) (w : World) (hS : Sent w (sen x)) (hab : Newer a b) (hs : a 2 ≠ b 2) (hbc : Newer b c) (ha : a 4 = 0 ∨ a 4 ≤ fl) :
    Calls Tryd.prog 7 #[rv a, rv b, rv c, .int .i64 fl, .int .i64 mo] w (RetT w) := by
  have HS := Lib.hid hS
  have K0 := Lib.hid (K3.new w a b c)
  clear hS
  have HAB := Lib.hid hab
  have HBA := Lib.hid hab.asymm
  have HBC := Lib.hid hbc
  have HAC := Lib.hid (hab.trans hbc)
  have g2 : (a 2 == b 2) = false := by simp [hs]
  clear hab hs hbc
  have HA := Lib.hid ha
  clear ha
  go_enter Tryd.func7, Tryd.ntmps7
  go_wp2_with fail
  (with_reducible refine (k3_first HS.out K0.out).mono ?_)
  rintro e w1 ⟨rfl, k1⟩
  obtain ⟨p0, p1, p2, p3, p4, p5⟩ := k1.1.six
  obtain ⟨q0, q1, q2, q3, q4, q5⟩ := k1.2.1.six
  obtain ⟨r0, r1, r2, r3, r4, r5⟩ := k1.2.2.1.six
  have K1 := Lib.hid k1
  clear k1
  go_wp2_with fail
  clear p0 p1 p2 p3 p4 p5 q0 q1 q2 q3 q4 q5 r0 r1 r2 r3 r4 r5
  (with_reducible refine (k3_newer_t HAB.out K1.out).mono ?_)
  rintro e w2 ⟨rfl, k2⟩
  obtain ⟨p0, p1, p2, p3, p4, p5⟩ := k2.1.six
  obtain ⟨q0, q1, q2, q3, q4, q5⟩ := k2.2.1.six
  obtain ⟨r0, r1, r2, r3, r4, r5⟩ := k2.2.2.1.six
  have K2 := Lib.hid k2
  clear k2
  go_wp2_with fail
  clear p0 p1 p2 p3 p4 p5 q0 q1 q2 q3 q4 q5 r0 r1 r2 r3 r4 r5
  (with_reducible refine (k3_newer_f HBA.out K2.out).mono ?_)
  rintro e w3 ⟨rfl, k3⟩
  obtain ⟨p0, p1, p2, p3, p4, p5⟩ := k3.1.six
  obtain ⟨q0, q1, q2, q3, q4, q5⟩ := k3.2.1.six
  obtain ⟨r0, r1, r2, r3, r4, r5⟩ := k3.2.2.1.six
  have K3 := Lib.hid k3
  clear k3
  go_wp2_with fail
  clear p0 p1 p2 p3 p4 p5 q0 q1 q2 q3 q4 q5 r0 r1 r2 r3 r4 r5
  (with_reducible refine (k3_newer_t HBC.out K3.out).mono ?_)
  rintro e w4 ⟨rfl, k4⟩
  obtain ⟨p0, p1, p2, p3, p4, p5⟩ := k4.1.six
  obtain ⟨q0, q1, q2, q3, q4, q5⟩ := k4.2.1.six
  obtain ⟨r0, r1, r2, r3, r4, r5⟩ := k4.2.2.1.six
  have K4 := Lib.hid k4
  clear k4
  go_wp2_with fail
  clear p0 p1 p2 p3 p4 p5 q0 q1 q2 q3 q4 q5 r0 r1 r2 r3 r4 r5
  (with_reducible refine (k3_newer_t HAC.out K4.out).mono ?_)
  rintro e w5 ⟨rfl, k5⟩
  obtain ⟨p0, p1, p2, p3, p4, p5⟩ := k5.1.six
  obtain ⟨q0, q1, q2, q3, q4, q5⟩ := k5.2.1.six
  obtain ⟨r0, r1, r2, r3, r4, r5⟩ := k5.2.2.1.six
  have K5 := Lib.hid k5
  clear k5
  go_wp2_with fail
  clear p0 p1 p2 p3 p4 p5 q0 q1 q2 q3 q4 q5 r0 r1 r2 r3 r4 r5
  (with_reducible refine (k3_alive_t HA.out K5.out).mono ?_)
  rintro e w6 ⟨rfl, k6⟩
  obtain ⟨p0, p1, p2, p3, p4, p5⟩ := k6.1.six
  obtain ⟨q0, q1, q2, q3, q4, q5⟩ := k6.2.1.six
  obtain ⟨r0, r1, r2, r3, r4, r5⟩ := k6.2.2.1.six
  have K6 := Lib.hid k6
  clear k6
  go_wp2_with fail
  all_goals
    clear p0 p1 p2 p3 p4 p5 q0 q1 q2 q3 q4 q5 r0 r1 r2 r3 r4 r5
    (with_reducible refine (k3_alive_t (by have := HA.out; omega) K6.out).mono ?_)
    rintro e w7 ⟨rfl, k7⟩
    have K7 := Lib.hid k7
    clear k7
    go_wp2
    go_ret
    exact ⟨rfl, K7.out.2.2.2.1⟩
set_option maxHeartbeats 2000000 in
theorem order_ab_nft (a b c : Nat → Int) (fl mo : Int) (x : Addr) (w : World) (hS : Sent w (sen x)) (hab : Newer a b) (hs : a 2 ≠ b 2) (hbc : ¬ Newer b c) (ha : a 4 = 0 ∨ a 4 ≤ fl) :
    Calls Tryd.prog 7 #[rv a, rv b, rv c, .int .i64 fl, .int .i64 mo] w (RetT w) := by
  have HS := Lib.hid hS
  have K0 := Lib.hid (K3.new w a b c)
  clear hS
  have HAB := Lib.hid hab
  have HBA := Lib.hid hab.asymm
  have HBC := Lib.hid hbc
  have g2 : (a 2 == b 2) = false := by simp [hs]
  clear hab hs hbc
  have HA := Lib.hid ha
  clear ha
  go_enter Tryd.func7, Tryd.ntmps7
  go_wp2_with fail
  (with_reducible refine (k3_first HS.out K0.out).mono ?_)
  rintro e w1 ⟨rfl, k1⟩
  obtain ⟨p0, p1, p2, p3, p4, p5⟩ := k1.1.six
  obtain ⟨q0, q1, q2, q3, q4, q5⟩ := k1.2.1.six
  obtain ⟨r0, r1, r2, r3, r4, r5⟩ := k1.2.2.1.six
  have K1 := Lib.hid k1
  clear k1
  go_wp2_with fail
  clear p0 p1 p2 p3 p4 p5 q0 q1 q2 q3 q4 q5 r0 r1 r2 r3 r4 r5
  (with_reducible refine (k3_newer_t HAB.out K1.out).mono ?_)
  rintro e w2 ⟨rfl, k2⟩
  obtain ⟨p0, p1, p2, p3, p4, p5⟩ := k2.1.six
  obtain ⟨q0, q1, q2, q3, q4, q5⟩ := k2.2.1.six
  obtain ⟨r0, r1, r2, r3, r4, r5⟩ := k2.2.2.1.six
  have K2 := Lib.hid k2
  clear k2
  go_wp2_with fail
  clear p0 p1 p2 p3 p4 p5 q0 q1 q2 q3 q4 q5 r0 r1 r2 r3 r4 r5
  (with_reducible refine (k3_newer_f HBA.out K2.out).mono ?_)
  rintro e w3 ⟨rfl, k3⟩
  obtain ⟨p0, p1, p2, p3, p4, p5⟩ := k3.1.six
  obtain ⟨q0, q1, q2, q3, q4, q5⟩ := k3.2.1.six
  obtain ⟨r0, r1, r2, r3, r4, r5⟩ := k3.2.2.1.six
  have K3 := Lib.hid k3
  clear k3
  go_wp2_with fail
  clear p0 p1 p2 p3 p4 p5 q0 q1 q2 q3 q4 q5 r0 r1 r2 r3 r4 r5
  (with_reducible refine (k3_newer_f HBC.out K3.out).mono ?_)
  rintro e w4 ⟨rfl, k4⟩
  obtain ⟨p0, p1, p2, p3, p4, p5⟩ := k4.1.six
  obtain ⟨q0, q1, q2, q3, q4, q5⟩ := k4.2.1.six
  obtain ⟨r0, r1, r2, r3, r4, r5⟩ := k4.2.2.1.six
  have K4 := Lib.hid k4
  clear k4
  go_wp2_with fail
  clear p0 p1 p2 p3 p4 p5 q0 q1 q2 q3 q4 q5 r0 r1 r2 r3 r4 r5
  (with_reducible refine (k3_alive_t HA.out K4.out).mono ?_)
  rintro e w5 ⟨rfl, k5⟩
  obtain ⟨p0, p1, p2, p3, p4, p5⟩ := k5.1.six
  obtain ⟨q0, q1, q2, q3, q4, q5⟩ := k5.2.1.six
  obtain ⟨r0, r1, r2, r3, r4, r5⟩ := k5.2.2.1.six
  have K5 := Lib.hid k5
  clear k5
  go_wp2_with fail
  all_goals
    clear p0 p1 p2 p3 p4 p5 q0 q1 q2 q3 q4 q5 r0 r1 r2 r3 r4 r5
    (with_reducible refine (k3_alive_t (by have := HA.out; omega) K5.out).mono ?_)
    rintro e w6 ⟨rfl, k6⟩
    have K6 := Lib.hid k6
    clear k6
    go_wp2
    go_ret
    exact ⟨rfl, K6.out.2.2.2.1⟩
set_option maxHeartbeats 2000000 in
theorem order_ba_et (a b c : Nat → Int) (fl mo : Int) (x : Addr) (w : World) (hS : Sent w (sen x)) (hba : Newer b a) (hs : a 2 = b 2) (ha : a 4 = 0 ∨ a 4 ≤ fl) :
    Calls Tryd.prog 7 #[rv a, rv b, rv c, .int .i64 fl, .int .i64 mo] w (RetT w) := by
  have HS := Lib.hid hS
  have K0 := Lib.hid (K3.new w a b c)
  clear hS
  have HBA := Lib.hid hba
  have HAB := Lib.hid hba.asymm
  have g2 : (a 2 == b 2) = true := by simp [hs]
  have g3 : (a 3 == b 3) = false := by unfold Newer at hba; simp; omega
  clear hba hs
  have HA := Lib.hid ha
  clear ha
  go_enter Tryd.func7, Tryd.ntmps7
  go_wp2_with fail
  (with_reducible refine (k3_first HS.out K0.out).mono ?_)
  rintro e w1 ⟨rfl, k1⟩
  obtain ⟨p0, p1, p2, p3, p4, p5⟩ := k1.1.six
  obtain ⟨q0, q1, q2, q3, q4, q5⟩ := k1.2.1.six
  obtain ⟨r0, r1, r2, r3, r4, r5⟩ := k1.2.2.1.six
  have K1 := Lib.hid k1
  clear k1
  go_wp2_with fail
  clear p0 p1 p2 p3 p4 p5 q0 q1 q2 q3 q4 q5 r0 r1 r2 r3 r4 r5
  (with_reducible refine (k3_newer_f HAB.out K1.out).mono ?_)
  rintro e w2 ⟨rfl, k2⟩
  obtain ⟨p0, p1, p2, p3, p4, p5⟩ := k2.1.six
  obtain ⟨q0, q1, q2, q3, q4, q5⟩ := k2.2.1.six
  obtain ⟨r0, r1, r2, r3, r4, r5⟩ := k2.2.2.1.six
  have K2 := Lib.hid k2
  clear k2
  go_wp2_with fail
  clear p0 p1 p2 p3 p4 p5 q0 q1 q2 q3 q4 q5 r0 r1 r2 r3 r4 r5
  (with_reducible refine (k3_newer_t HBA.out K2.out).mono ?_)
  rintro e w3 ⟨rfl, k3⟩
  obtain ⟨p0, p1, p2, p3, p4, p5⟩ := k3.1.six
  obtain ⟨q0, q1, q2, q3, q4, q5⟩ := k3.2.1.six
  obtain ⟨r0, r1, r2, r3, r4, r5⟩ := k3.2.2.1.six
  have K3 := Lib.hid k3
  clear k3
  go_wp2_with fail
  clear p0 p1 p2 p3 p4 p5 q0 q1 q2 q3 q4 q5 r0 r1 r2 r3 r4 r5
  (with_reducible refine (k3_alive_t HA.out K3.out).mono ?_)
  rintro e w4 ⟨rfl, k4⟩
  obtain ⟨p0, p1, p2, p3, p4, p5⟩ := k4.1.six
  obtain ⟨q0, q1, q2, q3, q4, q5⟩ := k4.2.1.six
  obtain ⟨r0, r1, r2, r3, r4, r5⟩ := k4.2.2.1.six
  have K4 := Lib.hid k4
  clear k4
  go_wp2_with fail
  all_goals
    clear p0 p1 p2 p3 p4 p5 q0 q1 q2 q3 q4 q5 r0 r1 r2 r3 r4 r5
    (with_reducible refine (k3_alive_t (by have := HA.out; omega) K4.out).mono ?_)
    rintro e w5 ⟨rfl, k5⟩
    have K5 := Lib.hid k5
    clear k5
    go_wp2
    go_ret
    exact ⟨rfl, K5.out.2.2.2.1⟩
set_option maxHeartbeats 2000000 in
theorem order_ba_nt (a b c : Nat → Int) (fl mo : Int) (x : Addr) (w : World) (hS : Sent w (sen x)) (hba : Newer b a) (hs : a 2 ≠ b 2) (ha : a 4 = 0 ∨ a 4 ≤ fl) :
    Calls Tryd.prog 7 #[rv a, rv b, rv c, .int .i64 fl, .int .i64 mo] w (RetT w) := by
  have HS := Lib.hid hS
  have K0 := Lib.hid (K3.new w a b c)
  clear hS
  have HBA := Lib.hid hba
  have HAB := Lib.hid hba.asymm
  have g2 : (a 2 == b 2) = false := by simp [hs]
  clear hba hs
  have HA := Lib.hid ha
  clear ha
  go_enter Tryd.func7, Tryd.ntmps7
  go_wp2_with fail
  (with_reducible refine (k3_first HS.out K0.out).mono ?_)
  rintro e w1 ⟨rfl, k1⟩
  obtain ⟨p0, p1, p2, p3, p4, p5⟩ := k1.1.six
  obtain ⟨q0, q1, q2, q3, q4, q5⟩ := k1.2.1.six
  obtain ⟨r0, r1, r2, r3, r4, r5⟩ := k1.2.2.1.six
  have K1 := Lib.hid k1
  clear k1
  go_wp2_with fail
  clear p0 p1 p2 p3 p4 p5 q0 q1 q2 q3 q4 q5 r0 r1 r2 r3 r4 r5
  (with_reducible refine (k3_newer_f HAB.out K1.out).mono ?_)
  rintro e w2 ⟨rfl, k2⟩
  obtain ⟨p0, p1, p2, p3, p4, p5⟩ := k2.1.six
  obtain ⟨q0, q1, q2, q3, q4, q5⟩ := k2.2.1.six
  obtain ⟨r0, r1, r2, r3, r4, r5⟩ := k2.2.2.1.six
  have K2 := Lib.hid k2
  clear k2
  go_wp2_with fail
  clear p0 p1 p2 p3 p4 p5 q0 q1 q2 q3 q4 q5 r0 r1 r2 r3 r4 r5
  (with_reducible refine (k3_newer_t HBA.out K2.out).mono ?_)
  rintro e w3 ⟨rfl, k3⟩
  obtain ⟨p0, p1, p2, p3, p4, p5⟩ := k3.1.six
  obtain ⟨q0, q1, q2, q3, q4, q5⟩ := k3.2.1.six
  obtain ⟨r0, r1, r2, r3, r4, r5⟩ := k3.2.2.1.six
  have K3 := Lib.hid k3
  clear k3
  go_wp2_with fail
  clear p0 p1 p2 p3 p4 p5 q0 q1 q2 q3 q4 q5 r0 r1 r2 r3 r4 r5
  (with_reducible refine (k3_alive_t HA.out K3.out).mono ?_)
  rintro e w4 ⟨rfl, k4⟩
  obtain ⟨p0, p1, p2, p3, p4, p5⟩ := k4.1.six
  obtain ⟨q0, q1, q2, q3, q4, q5⟩ := k4.2.1.six
  obtain ⟨r0, r1, r2, r3, r4, r5⟩ := k4.2.2.1.six
  have K4 := Lib.hid k4
  clear k4
  go_wp2_with fail
  all_goals
    clear p0 p1 p2 p3 p4 p5 q0 q1 q2 q3 q4 q5 r0 r1 r2 r3 r4 r5
    (with_reducible refine (k3_alive_t (by have := HA.out; omega) K4.out).mono ?_)
    rintro e w5 ⟨rfl, k5⟩
    have K5 := Lib.hid k5
    clear k5
    go_wp2
    go_ret
    exact ⟨rfl, K5.out.2.2.2.1⟩
set_option maxHeartbeats 2000000 in
theorem order_no_t (a b c : Nat → Int) (fl mo : Int) (x : Addr) (w : World) (hS : Sent w (sen x)) (hab : ¬ Newer a b) (hba : ¬ Newer b a) (ha : a 4 = 0 ∨ a 4 ≤ fl) :
    Calls Tryd.prog 7 #[rv a, rv b, rv c, .int .i64 fl, .int .i64 mo] w (RetT w) := by
  have HS := Lib.hid hS
  have K0 := Lib.hid (K3.new w a b c)
  clear hS
  have HAB := Lib.hid hab
  have HBA := Lib.hid hba
  have g2 : (a 2 == b 2) = true := by unfold Newer at hab hba; simp; omega
  have g3 : (a 3 == b 3) = true := by unfold Newer at hab hba; simp; omega
  clear hab hba
  have HA := Lib.hid ha
  clear ha
  go_enter Tryd.func7, Tryd.ntmps7
  go_wp2_with fail
  (with_reducible refine (k3_first HS.out K0.out).mono ?_)
  rintro e w1 ⟨rfl, k1⟩
  obtain ⟨p0, p1, p2, p3, p4, p5⟩ := k1.1.six
  obtain ⟨q0, q1, q2, q3, q4, q5⟩ := k1.2.1.six
  obtain ⟨r0, r1, r2, r3, r4, r5⟩ := k1.2.2.1.six
  have K1 := Lib.hid k1
  clear k1
  go_wp2_with fail
  clear p0 p1 p2 p3 p4 p5 q0 q1 q2 q3 q4 q5 r0 r1 r2 r3 r4 r5
  (with_reducible refine (k3_newer_f HAB.out K1.out).mono ?_)
  rintro e w2 ⟨rfl, k2⟩
  obtain ⟨p0, p1, p2, p3, p4, p5⟩ := k2.1.six
  obtain ⟨q0, q1, q2, q3, q4, q5⟩ := k2.2.1.six
  obtain ⟨r0, r1, r2, r3, r4, r5⟩ := k2.2.2.1.six
  have K2 := Lib.hid k2
  clear k2
  go_wp2_with fail
  clear p0 p1 p2 p3 p4 p5 q0 q1 q2 q3 q4 q5 r0 r1 r2 r3 r4 r5
  (with_reducible refine (k3_newer_f HBA.out K2.out).mono ?_)
  rintro e w3 ⟨rfl, k3⟩
  obtain ⟨p0, p1, p2, p3, p4, p5⟩ := k3.1.six
  obtain ⟨q0, q1, q2, q3, q4, q5⟩ := k3.2.1.six
  obtain ⟨r0, r1, r2, r3, r4, r5⟩ := k3.2.2.1.six
  have K3 := Lib.hid k3
  clear k3
  go_wp2_with fail
  clear p0 p1 p2 p3 p4 p5 q0 q1 q2 q3 q4 q5 r0 r1 r2 r3 r4 r5
  (with_reducible refine (k3_alive_t HA.out K3.out).mono ?_)
  rintro e w4 ⟨rfl, k4⟩
  obtain ⟨p0, p1, p2, p3, p4, p5⟩ := k4.1.six
  obtain ⟨q0, q1, q2, q3, q4, q5⟩ := k4.2.1.six
  obtain ⟨r0, r1, r2, r3, r4, r5⟩ := k4.2.2.1.six
  have K4 := Lib.hid k4
  clear k4
  go_wp2_with fail
  all_goals
    clear p0 p1 p2 p3 p4 p5 q0 q1 q2 q3 q4 q5 r0 r1 r2 r3 r4 r5
    (with_reducible refine (k3_alive_t (by have := HA.out; omega) K4.out).mono ?_)
    rintro e w5 ⟨rfl, k5⟩
    have K5 := Lib.hid k5
    clear k5
    go_wp2
    go_ret
    exact ⟨rfl, K5.out.2.2.2.1⟩
set_option maxHeartbeats 2000000 in
theorem order_ab_etf (a b c : Nat → Int) (fl mo : Int) (x : Addr) (w : World) (hS : Sent w (sen x)) (hab : Newer a b) (hs : a 2 = b 2) (hbc : Newer b c) (ha : ¬ (a 4 = 0 ∨ a 4 ≤ fl)) :
    Calls Tryd.prog 7 #[rv a, rv b, rv c, .int .i64 fl, .int .i64 mo] w (RetT w) := by
  have HS := Lib.hid hS
  have K0 := Lib.hid (K3.new w a b c)
  clear hS
  have HAB := Lib.hid hab
  have HBA := Lib.hid hab.asymm
  have HBC := Lib.hid hbc
  have HAC := Lib.hid (hab.trans hbc)
  have g2 : (a 2 == b 2) = true := by simp [hs]
  have g3 : (a 3 == b 3) = false := by unfold Newer at hab; simp; omega
  clear hab hs hbc
  have HA := Lib.hid ha
  clear ha
  go_enter Tryd.func7, Tryd.ntmps7
  go_wp2_with fail
  (with_reducible refine (k3_first HS.out K0.out).mono ?_)
  rintro e w1 ⟨rfl, k1⟩
  obtain ⟨p0, p1, p2, p3, p4, p5⟩ := k1.1.six
  obtain ⟨q0, q1, q2, q3, q4, q5⟩ := k1.2.1.six
  obtain ⟨r0, r1, r2, r3, r4, r5⟩ := k1.2.2.1.six
  have K1 := Lib.hid k1
  clear k1
  go_wp2_with fail
  clear p0 p1 p2 p3 p4 p5 q0 q1 q2 q3 q4 q5 r0 r1 r2 r3 r4 r5
  (with_reducible refine (k3_newer_t HAB.out K1.out).mono ?_)
  rintro e w2 ⟨rfl, k2⟩
  obtain ⟨p0, p1, p2, p3, p4, p5⟩ := k2.1.six
  obtain ⟨q0, q1, q2, q3, q4, q5⟩ := k2.2.1.six
  obtain ⟨r0, r1, r2, r3, r4, r5⟩ := k2.2.2.1.six
  have K2 := Lib.hid k2
  clear k2
  go_wp2_with fail
  clear p0 p1 p2 p3 p4 p5 q0 q1 q2 q3 q4 q5 r0 r1 r2 r3 r4 r5
  (with_reducible refine (k3_newer_f HBA.out K2.out).mono ?_)
  rintro e w3 ⟨rfl, k3⟩
  obtain ⟨p0, p1, p2, p3, p4, p5⟩ := k3.1.six
  obtain ⟨q0, q1, q2, q3, q4, q5⟩ := k3.2.1.six
  obtain ⟨r0, r1, r2, r3, r4, r5⟩ := k3.2.2.1.six
  have K3 := Lib.hid k3
  clear k3
  go_wp2_with fail
  clear p0 p1 p2 p3 p4 p5 q0 q1 q2 q3 q4 q5 r0 r1 r2 r3 r4 r5
  (with_reducible refine (k3_newer_t HBC.out K3.out).mono ?_)
  rintro e w4 ⟨rfl, k4⟩
  obtain ⟨p0, p1, p2, p3, p4, p5⟩ := k4.1.six
  obtain ⟨q0, q1, q2, q3, q4, q5⟩ := k4.2.1.six
  obtain ⟨r0, r1, r2, r3, r4, r5⟩ := k4.2.2.1.six
  have K4 := Lib.hid k4
  clear k4
  go_wp2_with fail
  clear p0 p1 p2 p3 p4 p5 q0 q1 q2 q3 q4 q5 r0 r1 r2 r3 r4 r5
  (with_reducible refine (k3_newer_t HAC.out K4.out).mono ?_)
  rintro e w5 ⟨rfl, k5⟩
  obtain ⟨p0, p1, p2, p3, p4, p5⟩ := k5.1.six
  obtain ⟨q0, q1, q2, q3, q4, q5⟩ := k5.2.1.six
  obtain ⟨r0, r1, r2, r3, r4, r5⟩ := k5.2.2.1.six
  have K5 := Lib.hid k5
  clear k5
  go_wp2_with fail
  clear p0 p1 p2 p3 p4 p5 q0 q1 q2 q3 q4 q5 r0 r1 r2 r3 r4 r5
  (with_reducible refine (k3_alive_f HA.out K5.out).mono ?_)
  rintro e w6 ⟨rfl, k6⟩
  obtain ⟨p0, p1, p2, p3, p4, p5⟩ := k6.1.six
  obtain ⟨q0, q1, q2, q3, q4, q5⟩ := k6.2.1.six
  obtain ⟨r0, r1, r2, r3, r4, r5⟩ := k6.2.2.1.six
  have K6 := Lib.hid k6
  clear k6
  go_wp2
  go_ret
  exact ⟨rfl, K6.out.2.2.2.1⟩
set_option maxHeartbeats 2000000 in
theorem order_ab_eff (a b c : Nat → Int) (fl mo : Int) (x : Addr) (w : World) (hS : Sent w (sen x)) (hab : Newer a b) (hs : a 2 = b 2) (hbc : ¬ Newer b c) (ha : ¬ (a 4 = 0 ∨ a 4 ≤ fl)) :
    Calls Tryd.prog 7 #[rv a, rv b, rv c, .int .i64 fl, .int .i64 mo] w (RetT w) := by
  have HS := Lib.hid hS
  have K0 := Lib.hid (K3.new w a b c)
  clear hS
  have HAB := Lib.hid hab
  have HBA := Lib.hid hab.asymm
  have HBC := Lib.hid hbc
  have g2 : (a 2 == b 2) = true := by simp [hs]
  have g3 : (a 3 == b 3) = false := by unfold Newer at hab; simp; omega
  clear hab hs hbc
  have HA := Lib.hid ha
  clear ha
  go_enter Tryd.func7, Tryd.ntmps7
  go_wp2_with fail
  (with_reducible refine (k3_first HS.out K0.out).mono ?_)
  rintro e w1 ⟨rfl, k1⟩
  obtain ⟨p0, p1, p2, p3, p4, p5⟩ := k1.1.six
  obtain ⟨q0, q1, q2, q3, q4, q5⟩ := k1.2.1.six
  obtain ⟨r0, r1, r2, r3, r4, r5⟩ := k1.2.2.1.six
  have K1 := Lib.hid k1
  clear k1
  go_wp2_with fail
  clear p0 p1 p2 p3 p4 p5 q0 q1 q2 q3 q4 q5 r0 r1 r2 r3 r4 r5
  (with_reducible refine (k3_newer_t HAB.out K1.out).mono ?_)
  rintro e w2 ⟨rfl, k2⟩
  obtain ⟨p0, p1, p2, p3, p4, p5⟩ := k2.1.six
  obtain ⟨q0, q1, q2, q3, q4, q5⟩ := k2.2.1.six
  obtain ⟨r0, r1, r2, r3, r4, r5⟩ := k2.2.2.1.six
  have K2 := Lib.hid k2
  clear k2
  go_wp2_with fail
  clear p0 p1 p2 p3 p4 p5 q0 q1 q2 q3 q4 q5 r0 r1 r2 r3 r4 r5
  (with_reducible refine (k3_newer_f HBA.out K2.out).mono ?_)
  rintro e w3 ⟨rfl, k3⟩
  obtain ⟨p0, p1, p2, p3, p4, p5⟩ := k3.1.six
  obtain ⟨q0, q1, q2, q3, q4, q5⟩ := k3.2.1.six
  obtain ⟨r0, r1, r2, r3, r4, r5⟩ := k3.2.2.1.six
  have K3 := Lib.hid k3
  clear k3
  go_wp2_with fail
  clear p0 p1 p2 p3 p4 p5 q0 q1 q2 q3 q4 q5 r0 r1 r2 r3 r4 r5
  (with_reducible refine (k3_newer_f HBC.out K3.out).mono ?_)
  rintro e w4 ⟨rfl, k4⟩
  obtain ⟨p0, p1, p2, p3, p4, p5⟩ := k4.1.six
  obtain ⟨q0, q1, q2, q3, q4, q5⟩ := k4.2.1.six
  obtain ⟨r0, r1, r2, r3, r4, r5⟩ := k4.2.2.1.six
  have K4 := Lib.hid k4
  clear k4
  go_wp2_with fail
  clear p0 p1 p2 p3 p4 p5 q0 q1 q2 q3 q4 q5 r0 r1 r2 r3 r4 r5
  (with_reducible refine (k3_alive_f HA.out K4.out).mono ?_)
  rintro e w5 ⟨rfl, k5⟩
  obtain ⟨p0, p1, p2, p3, p4, p5⟩ := k5.1.six
  obtain ⟨q0, q1, q2, q3, q4, q5⟩ := k5.2.1.six
  obtain ⟨r0, r1, r2, r3, r4, r5⟩ := k5.2.2.1.six
  have K5 := Lib.hid k5
  clear k5
  go_wp2
  go_ret
  exact ⟨rfl, K5.out.2.2.2.1⟩
set_option maxHeartbeats 2000000 in
theorem order_ab_ntf (a b c : Nat → Int) (fl mo : Int) (x : Addr) (w : World) (hS : Sent w (sen x)) (hab : Newer a b) (hs : a 2 ≠ b 2) (hbc : Newer b c) (ha : ¬ (a 4 = 0 ∨ a 4 ≤ fl)) :
    Calls Tryd.prog 7 #[rv a, rv b, rv c, .int .i64 fl, .int .i64 mo] w (RetT w) := by
  have HS := Lib.hid hS
  have K0 := Lib.hid (K3.new w a b c)
  clear hS
  have HAB := Lib.hid hab
  have HBA := Lib.hid hab.asymm
  have HBC := Lib.hid hbc
  have HAC := Lib.hid (hab.trans hbc)
  have g2 : (a 2 == b 2) = false := by simp [hs]
  clear hab hs hbc
  have HA := Lib.hid ha
  clear ha
  go_enter Tryd.func7, Tryd.ntmps7
  go_wp2_with fail
  (with_reducible refine (k3_first HS.out K0.out).mono ?_)
  rintro e w1 ⟨rfl, k1⟩
  obtain ⟨p0, p1, p2, p3, p4, p5⟩ := k1.1.six
  obtain ⟨q0, q1, q2, q3, q4, q5⟩ := k1.2.1.six
  obtain ⟨r0, r1, r2, r3, r4, r5⟩ := k1.2.2.1.six
  have K1 := Lib.hid k1
  clear k1
  go_wp2_with fail
  clear p0 p1 p2 p3 p4 p5 q0 q1 q2 q3 q4 q5 r0 r1 r2 r3 r4 r5
  (with_reducible refine (k3_newer_t HAB.out K1.out).mono ?_)
  rintro e w2 ⟨rfl, k2⟩
  obtain ⟨p0, p1, p2, p3, p4, p5⟩ := k2.1.six
  obtain ⟨q0, q1, q2, q3, q4, q5⟩ := k2.2.1.six
  obtain ⟨r0, r1, r2, r3, r4, r5⟩ := k2.2.2.1.six
  have K2 := Lib.hid k2
  clear k2
  go_wp2_with fail
  clear p0 p1 p2 p3 p4 p5 q0 q1 q2 q3 q4 q5 r0 r1 r2 r3 r4 r5
  (with_reducible refine (k3_newer_f HBA.out K2.out).mono ?_)
  rintro e w3 ⟨rfl, k3⟩
  obtain ⟨p0, p1, p2, p3, p4, p5⟩ := k3.1.six
  obtain ⟨q0, q1, q2, q3, q4, q5⟩ := k3.2.1.six
  obtain ⟨r0, r1, r2, r3, r4, r5⟩ := k3.2.2.1.six
  have K3 := Lib.hid k3
  clear k3
  go_wp2_with fail
  clear p0 p1 p2 p3 p4 p5 q0 q1 q2 q3 q4 q5 r0 r1 r2 r3 r4 r5
  (with_reducible refine (k3_newer_t HBC.out K3.out).mono ?_)
  rintro e w4 ⟨rfl, k4⟩
  obtain ⟨p0, p1, p2, p3, p4, p5⟩ := k4.1.six
  obtain ⟨q0, q1, q2, q3, q4, q5⟩ := k4.2.1.six
  obtain ⟨r0, r1, r2, r3, r4, r5⟩ := k4.2.2.1.six
  have K4 := Lib.hid k4
  clear k4
  go_wp2_with fail
  clear p0 p1 p2 p3 p4 p5 q0 q1 q2 q3 q4 q5 r0 r1 r2 r3 r4 r5
  (with_reducible refine (k3_newer_t HAC.out K4.out).mono ?_)
  rintro e w5 ⟨rfl, k5⟩
  obtain ⟨p0, p1, p2, p3, p4, p5⟩ := k5.1.six
  obtain ⟨q0, q1, q2, q3, q4, q5⟩ := k5.2.1.six
  obtain ⟨r0, r1, r2, r3, r4, r5⟩ := k5.2.2.1.six
  have K5 := Lib.hid k5
  clear k5
  go_wp2_with fail
  clear p0 p1 p2 p3 p4 p5 q0 q1 q2 q3 q4 q5 r0 r1 r2 r3 r4 r5
  (with_reducible refine (k3_alive_f HA.out K5.out).mono ?_)
  rintro e w6 ⟨rfl, k6⟩
  obtain ⟨p0, p1, p2, p3, p4, p5⟩ := k6.1.six
  obtain ⟨q0, q1, q2, q3, q4, q5⟩ := k6.2.1.six
  obtain ⟨r0, r1, r2, r3, r4, r5⟩ := k6.2.2.1.six
  have K6 := Lib.hid k6
  clear k6
  go_wp2
  go_ret
  exact ⟨rfl, K6.out.2.2.2.1⟩
set_option maxHeartbeats 2000000 in
theorem order_ab_nff (a b c : Nat → Int) (fl mo : Int) (x : Addr) (w : World) (hS : Sent w (sen x)) (hab : Newer a b) (hs : a 2 ≠ b 2) (hbc : ¬ Newer b c) (ha : ¬ (a 4 = 0 ∨ a 4 ≤ fl)) :
    Calls Tryd.prog 7 #[rv a, rv b, rv c, .int .i64 fl, .int .i64 mo] w (RetT w) := by
  have HS := Lib.hid hS
  have K0 := Lib.hid (K3.new w a b c)
  clear hS
  have HAB := Lib.hid hab
  have HBA := Lib.hid hab.asymm
  have HBC := Lib.hid hbc
  have g2 : (a 2 == b 2) = false := by simp [hs]
  clear hab hs hbc
  have HA := Lib.hid ha
  clear ha
  go_enter Tryd.func7, Tryd.ntmps7
  go_wp2_with fail
  (with_reducible refine (k3_first HS.out K0.out).mono ?_)
  rintro e w1 ⟨rfl, k1⟩
  obtain ⟨p0, p1, p2, p3, p4, p5⟩ := k1.1.six
  obtain ⟨q0, q1, q2, q3, q4, q5⟩ := k1.2.1.six
  obtain ⟨r0, r1, r2, r3, r4, r5⟩ := k1.2.2.1.six
  have K1 := Lib.hid k1
  clear k1
  go_wp2_with fail
  clear p0 p1 p2 p3 p4 p5 q0 q1 q2 q3 q4 q5 r0 r1 r2 r3 r4 r5
  (with_reducible refine (k3_newer_t HAB.out K1.out).mono ?_)
  rintro e w2 ⟨rfl, k2⟩
  obtain ⟨p0, p1, p2, p3, p4, p5⟩ := k2.1.six
  obtain ⟨q0, q1, q2, q3, q4, q5⟩ := k2.2.1.six
  obtain ⟨r0, r1, r2, r3, r4, r5⟩ := k2.2.2.1.six
  have K2 := Lib.hid k2
  clear k2
  go_wp2_with fail
  clear p0 p1 p2 p3 p4 p5 q0 q1 q2 q3 q4 q5 r0 r1 r2 r3 r4 r5
  (with_reducible refine (k3_newer_f HBA.out K2.out).mono ?_)
  rintro e w3 ⟨rfl, k3⟩
  obtain ⟨p0, p1, p2, p3, p4, p5⟩ := k3.1.six
  obtain ⟨q0, q1, q2, q3, q4, q5⟩ := k3.2.1.six
  obtain ⟨r0, r1, r2, r3, r4, r5⟩ := k3.2.2.1.six
  have K3 := Lib.hid k3
  clear k3
  go_wp2_with fail
  clear p0 p1 p2 p3 p4 p5 q0 q1 q2 q3 q4 q5 r0 r1 r2 r3 r4 r5
  (with_reducible refine (k3_newer_f HBC.out K3.out).mono ?_)
  rintro e w4 ⟨rfl, k4⟩
  obtain ⟨p0, p1, p2, p3, p4, p5⟩ := k4.1.six
  obtain ⟨q0, q1, q2, q3, q4, q5⟩ := k4.2.1.six
  obtain ⟨r0, r1, r2, r3, r4, r5⟩ := k4.2.2.1.six
  have K4 := Lib.hid k4
  clear k4
  go_wp2_with fail
  clear p0 p1 p2 p3 p4 p5 q0 q1 q2 q3 q4 q5 r0 r1 r2 r3 r4 r5
  (with_reducible refine (k3_alive_f HA.out K4.out).mono ?_)
  rintro e w5 ⟨rfl, k5⟩
  obtain ⟨p0, p1, p2, p3, p4, p5⟩ := k5.1.six
  obtain ⟨q0, q1, q2, q3, q4, q5⟩ := k5.2.1.six
  obtain ⟨r0, r1, r2, r3, r4, r5⟩ := k5.2.2.1.six
  have K5 := Lib.hid k5
  clear k5
  go_wp2
  go_ret
  exact ⟨rfl, K5.out.2.2.2.1⟩
set_option maxHeartbeats 2000000 in
theorem order_ba_ef (a b c : Nat → Int) (fl mo : Int) (x : Addr) (w : World) (hS : Sent w (sen x)) (hba : Newer b a) (hs : a 2 = b 2) (ha : ¬ (a 4 = 0 ∨ a 4 ≤ fl)) :
    Calls Tryd.prog 7 #[rv a, rv b, rv c, .int .i64 fl, .int .i64 mo] w (RetT w) := by
  have HS := Lib.hid hS
  have K0 := Lib.hid (K3.new w a b c)
  clear hS
  have HBA := Lib.hid hba
  have HAB := Lib.hid hba.asymm
  have g2 : (a 2 == b 2) = true := by simp [hs]
  have g3 : (a 3 == b 3) = false := by unfold Newer at hba; simp; omega
  clear hba hs
  have HA := Lib.hid ha
  clear ha
  go_enter Tryd.func7, Tryd.ntmps7
  go_wp2_with fail
  (with_reducible refine (k3_first HS.out K0.out).mono ?_)
  rintro e w1 ⟨rfl, k1⟩
  obtain ⟨p0, p1, p2, p3, p4, p5⟩ := k1.1.six
  obtain ⟨q0, q1, q2, q3, q4, q5⟩ := k1.2.1.six
  obtain ⟨r0, r1, r2, r3, r4, r5⟩ := k1.2.2.1.six
  have K1 := Lib.hid k1
  clear k1
  go_wp2_with fail
  clear p0 p1 p2 p3 p4 p5 q0 q1 q2 q3 q4 q5 r0 r1 r2 r3 r4 r5
  (with_reducible refine (k3_newer_f HAB.out K1.out).mono ?_)
  rintro e w2 ⟨rfl, k2⟩
  obtain ⟨p0, p1, p2, p3, p4, p5⟩ := k2.1.six
  obtain ⟨q0, q1, q2, q3, q4, q5⟩ := k2.2.1.six
  obtain ⟨r0, r1, r2, r3, r4, r5⟩ := k2.2.2.1.six
  have K2 := Lib.hid k2
  clear k2
  go_wp2_with fail
  clear p0 p1 p2 p3 p4 p5 q0 q1 q2 q3 q4 q5 r0 r1 r2 r3 r4 r5
  (with_reducible refine (k3_newer_t HBA.out K2.out).mono ?_)
  rintro e w3 ⟨rfl, k3⟩
  obtain ⟨p0, p1, p2, p3, p4, p5⟩ := k3.1.six
  obtain ⟨q0, q1, q2, q3, q4, q5⟩ := k3.2.1.six
  obtain ⟨r0, r1, r2, r3, r4, r5⟩ := k3.2.2.1.six
  have K3 := Lib.hid k3
  clear k3
  go_wp2_with fail
  clear p0 p1 p2 p3 p4 p5 q0 q1 q2 q3 q4 q5 r0 r1 r2 r3 r4 r5
  (with_reducible refine (k3_alive_f HA.out K3.out).mono ?_)
  rintro e w4 ⟨rfl, k4⟩
  obtain ⟨p0, p1, p2, p3, p4, p5⟩ := k4.1.six
  obtain ⟨q0, q1, q2, q3, q4, q5⟩ := k4.2.1.six
  obtain ⟨r0, r1, r2, r3, r4, r5⟩ := k4.2.2.1.six
  have K4 := Lib.hid k4
  clear k4
  go_wp2
  go_ret
  exact ⟨rfl, K4.out.2.2.2.1⟩
set_option maxHeartbeats 2000000 in
theorem order_ba_nf (a b c : Nat → Int) (fl mo : Int) (x : Addr) (w : World) (hS : Sent w (sen x)) (hba : Newer b a) (hs : a 2 ≠ b 2) (ha : ¬ (a 4 = 0 ∨ a 4 ≤ fl)) :
    Calls Tryd.prog 7 #[rv a, rv b, rv c, .int .i64 fl, .int .i64 mo] w (RetT w) := by
  have HS := Lib.hid hS
  have K0 := Lib.hid (K3.new w a b c)
  clear hS
  have HBA := Lib.hid hba
  have HAB := Lib.hid hba.asymm
  have g2 : (a 2 == b 2) = false := by simp [hs]
  clear hba hs
  have HA := Lib.hid ha
  clear ha
  go_enter Tryd.func7, Tryd.ntmps7
  go_wp2_with fail
  (with_reducible refine (k3_first HS.out K0.out).mono ?_)
  rintro e w1 ⟨rfl, k1⟩
  obtain ⟨p0, p1, p2, p3, p4, p5⟩ := k1.1.six
  obtain ⟨q0, q1, q2, q3, q4, q5⟩ := k1.2.1.six
  obtain ⟨r0, r1, r2, r3, r4, r5⟩ := k1.2.2.1.six
  have K1 := Lib.hid k1
  clear k1
  go_wp2_with fail
  clear p0 p1 p2 p3 p4 p5 q0 q1 q2 q3 q4 q5 r0 r1 r2 r3 r4 r5
  (with_reducible refine (k3_newer_f HAB.out K1.out).mono ?_)
  rintro e w2 ⟨rfl, k2⟩
  obtain ⟨p0, p1, p2, p3, p4, p5⟩ := k2.1.six
  obtain ⟨q0, q1, q2, q3, q4, q5⟩ := k2.2.1.six
  obtain ⟨r0, r1, r2, r3, r4, r5⟩ := k2.2.2.1.six
  have K2 := Lib.hid k2
  clear k2
  go_wp2_with fail
  clear p0 p1 p2 p3 p4 p5 q0 q1 q2 q3 q4 q5 r0 r1 r2 r3 r4 r5
  (with_reducible refine (k3_newer_t HBA.out K2.out).mono ?_)
  rintro e w3 ⟨rfl, k3⟩
  obtain ⟨p0, p1, p2, p3, p4, p5⟩ := k3.1.six
  obtain ⟨q0, q1, q2, q3, q4, q5⟩ := k3.2.1.six
  obtain ⟨r0, r1, r2, r3, r4, r5⟩ := k3.2.2.1.six
  have K3 := Lib.hid k3
  clear k3
  go_wp2_with fail
  clear p0 p1 p2 p3 p4 p5 q0 q1 q2 q3 q4 q5 r0 r1 r2 r3 r4 r5
  (with_reducible refine (k3_alive_f HA.out K3.out).mono ?_)
  rintro e w4 ⟨rfl, k4⟩
  obtain ⟨p0, p1, p2, p3, p4, p5⟩ := k4.1.six
  obtain ⟨q0, q1, q2, q3, q4, q5⟩ := k4.2.1.six
  obtain ⟨r0, r1, r2, r3, r4, r5⟩ := k4.2.2.1.six
  have K4 := Lib.hid k4
  clear k4
  go_wp2
  go_ret
  exact ⟨rfl, K4.out.2.2.2.1⟩
set_option maxHeartbeats 2000000 in
theorem order_no_f (a b c : Nat → Int) (fl mo : Int) (x : Addr) (w : World) (hS : Sent w (sen x)) (hab : ¬ Newer a b) (hba : ¬ Newer b a) (ha : ¬ (a 4 = 0 ∨ a 4 ≤ fl)) :
    Calls Tryd.prog 7 #[rv a, rv b, rv c, .int .i64 fl, .int .i64 mo] w (RetT w) := by
  have HS := Lib.hid hS
  have K0 := Lib.hid (K3.new w a b c)
  clear hS
  have HAB := Lib.hid hab
  have HBA := Lib.hid hba
  have g2 : (a 2 == b 2) = true := by unfold Newer at hab hba; simp; omega
  have g3 : (a 3 == b 3) = true := by unfold Newer at hab hba; simp; omega
  clear hab hba
  have HA := Lib.hid ha
  clear ha
  go_enter Tryd.func7, Tryd.ntmps7
  go_wp2_with fail
  (with_reducible refine (k3_first HS.out K0.out).mono ?_)
  rintro e w1 ⟨rfl, k1⟩
  obtain ⟨p0, p1, p2, p3, p4, p5⟩ := k1.1.six
  obtain ⟨q0, q1, q2, q3, q4, q5⟩ := k1.2.1.six
  obtain ⟨r0, r1, r2, r3, r4, r5⟩ := k1.2.2.1.six
  have K1 := Lib.hid k1
  clear k1
  go_wp2_with fail
  clear p0 p1 p2 p3 p4 p5 q0 q1 q2 q3 q4 q5 r0 r1 r2 r3 r4 r5
  (with_reducible refine (k3_newer_f HAB.out K1.out).mono ?_)
  rintro e w2 ⟨rfl, k2⟩
  obtain ⟨p0, p1, p2, p3, p4, p5⟩ := k2.1.six
  obtain ⟨q0, q1, q2, q3, q4, q5⟩ := k2.2.1.six
  obtain ⟨r0, r1, r2, r3, r4, r5⟩ := k2.2.2.1.six
  have K2 := Lib.hid k2
  clear k2
  go_wp2_with fail
  clear p0 p1 p2 p3 p4 p5 q0 q1 q2 q3 q4 q5 r0 r1 r2 r3 r4 r5
  (with_reducible refine (k3_newer_f HBA.out K2.out).mono ?_)
  rintro e w3 ⟨rfl, k3⟩
  obtain ⟨p0, p1, p2, p3, p4, p5⟩ := k3.1.six
  obtain ⟨q0, q1, q2, q3, q4, q5⟩ := k3.2.1.six
  obtain ⟨r0, r1, r2, r3, r4, r5⟩ := k3.2.2.1.six
  have K3 := Lib.hid k3
  clear k3
  go_wp2_with fail
  clear p0 p1 p2 p3 p4 p5 q0 q1 q2 q3 q4 q5 r0 r1 r2 r3 r4 r5
  (with_reducible refine (k3_alive_f HA.out K3.out).mono ?_)
  rintro e w4 ⟨rfl, k4⟩
  obtain ⟨p0, p1, p2, p3, p4, p5⟩ := k4.1.six
  obtain ⟨q0, q1, q2, q3, q4, q5⟩ := k4.2.1.six
  obtain ⟨r0, r1, r2, r3, r4, r5⟩ := k4.2.2.1.six
  have K4 := Lib.hid k4
  clear k4
  go_wp2
  go_ret
  exact ⟨rfl, K4.out.2.2.2.1⟩
theorem order_walk (a b c : Nat → Int) (fl mo : Int) (x : Addr) (w : World) (hS : Sent w (sen x)) :
    Calls Tryd.prog 7 #[rv a, rv b, rv c, .int .i64 fl, .int .i64 mo] w (RetT w) := by
  by_cases ha : a 4 = 0 ∨ a 4 ≤ fl <;> by_cases hab : Newer a b
  · by_cases hs : a 2 = b 2 <;> by_cases hbc : Newer b c
    · exact order_ab_ett a b c fl mo x w hS hab hs hbc ha
    · exact order_ab_eft a b c fl mo x w hS hab hs hbc ha
    · exact order_ab_ntt a b c fl mo x w hS hab hs hbc ha
    · exact order_ab_nft a b c fl mo x w hS hab hs hbc ha
  · by_cases hba : Newer b a
    · by_cases hs : a 2 = b 2
      · exact order_ba_et a b c fl mo x w hS hba hs ha
      · exact order_ba_nt a b c fl mo x w hS hba hs ha
    · exact order_no_t a b c fl mo x w hS hab hba ha
  · by_cases hs : a 2 = b 2 <;> by_cases hbc : Newer b c
    · exact order_ab_etf a b c fl mo x w hS hab hs hbc ha
    · exact order_ab_eff a b c fl mo x w hS hab hs hbc ha
    · exact order_ab_ntf a b c fl mo x w hS hab hs hbc ha
    · exact order_ab_nff a b c fl mo x w hS hab hs hbc ha
  · by_cases hba : Newer b a
    · by_cases hs : a 2 = b 2
      · exact order_ba_ef a b c fl mo x w hS hba hs ha
      · exact order_ba_nf a b c fl mo x w hS hba hs ha
    · exact order_no_f a b c fl mo x w hS hab hba ha
end Go.Proofs.YtmfkfheakahckaaDoor
