/- What package meta's small functions and the reference's say of records: Newer, Alive, Count, May, SameMeta, the fields; no condition. -/
import Derived.Test.YtmfkfheakahckaaDoorLow
set_option linter.unusedVariables false
namespace Go.Proofs.YtmfkfheakahckaaDoor
open Go.RowKit
/-- a record as a value -/
abbrev rv (m : Nat → Int) : Value := .agg #[.int .i64 (m 0), .int .i64 (m 1), .int .i64 (m 2), .int .i64 (m 3), .int .i64 (m 4), .int .i64 (m 5)]
def Newer (m n : Nat → Int) : Prop := n 2 < m 2 ∨ m 2 = n 2 ∧ m 3 < n 3
instance (m n : Nat → Int) : Decidable (Newer m n) := by unfold Newer; infer_instance
theorem newer_any (m n : Nat → Int) (w : World) :
    Calls Tryd.prog 19 #[rv m, rv n] w fun r w' => r = .returned (.bool (decide (Newer m n))) ∧ Below w.heap.size w w' := by
  go_enter Tryd.func19, Tryd.ntmps19
  go_wp2
  all_goals go_ret
  all_goals refine ⟨ret_bool ?_, ((Below.refl _ _).alloc (Nat.le_refl _) _).alloc (by simp) _⟩
  all_goals first | exact decide_eq_decide.2 (by unfold Newer; omega) | exact (decide_eq_true (by unfold Newer; omega)).symm
theorem rnewer_any (m n : Nat → Int) (w : World) :
    Calls Tryd.prog 20 #[rv m, rv n] w fun r w' => r = .returned (.bool (decide (Newer m n))) ∧ Below w.heap.size w w' := by
  go_enter Tryd.func20, Tryd.ntmps20
  go_wp2
  all_goals go_ret
  all_goals refine ⟨ret_bool ?_, ((Below.refl _ _).alloc (Nat.le_refl _) _).alloc (by simp) _⟩
  all_goals first | exact decide_eq_decide.2 (by unfold Newer; omega) | exact (decide_eq_true (by unfold Newer; omega)).symm
theorem alive_any (m : Nat → Int) (n : Int) (w : World) :
    Calls Tryd.prog 21 #[rv m, .int .i64 n] w fun r w' => r = .returned (.bool (decide (m 4 = 0 ∨ m 4 ≤ n))) ∧ Below w.heap.size w w' := by
  go_enter Tryd.func21, Tryd.ntmps21
  go_wp2
  all_goals go_ret
  all_goals refine ⟨ret_bool ?_, (Below.refl _ _).alloc (Nat.le_refl _) _⟩
  all_goals first | exact decide_eq_decide.2 (by omega) | exact (decide_eq_true (by omega)).symm | (rw [Bool.eq_iff_iff]; simp; done) | (rw [Bool.eq_iff_iff]; simp; omega)
theorem ralive_any (m : Nat → Int) (n : Int) (w : World) :
    Calls Tryd.prog 22 #[rv m, .int .i64 n] w fun r w' => r = .returned (.bool (decide (m 4 = 0 ∨ m 4 ≤ n))) ∧ Below w.heap.size w w' := by
  go_enter Tryd.func22, Tryd.ntmps22
  go_wp2
  all_goals go_ret
  all_goals refine ⟨ret_bool ?_, (Below.refl _ _).alloc (Nat.le_refl _) _⟩
  all_goals first | exact decide_eq_decide.2 (by omega) | exact (decide_eq_true (by omega)).symm | (rw [Bool.eq_iff_iff]; simp; done) | (rw [Bool.eq_iff_iff]; simp; omega)
def Same (m n : Nat → Int) : Prop := m 0 = n 0 ∧ m 1 = n 1 ∧ m 2 = n 2 ∧ m 3 = n 3 ∧ m 4 = n 4 ∧ m 5 = n 5
instance (m n : Nat → Int) : Decidable (Same m n) := by unfold Same; infer_instance
theorem same_any (m n : Nat → Int) (w : World) :
    Calls Tryd.prog 12 #[rv m, rv n] w fun r w' => r = .returned (.bool (decide (Same m n))) ∧ Below w.heap.size w w' := by
  go_enter Tryd.func12, Tryd.ntmps12
  go_wp2
  all_goals go_ret
  all_goals refine ⟨ret_bool ?_, ((Below.refl _ _).alloc (Nat.le_refl _) _).alloc (by simp) _⟩
  all_goals first | exact decide_eq_decide.2 (by unfold Same; omega) | exact (decide_eq_false (by unfold Same; omega)).symm
theorem count_any (n : Int) (w : World) : Calls Tryd.prog 27 #[.int .i64 n] w fun r w' => r = .returned (.bool (decide (0 ≤ n ∧ n ≤ 1073741824))) ∧ w = w' := by
  go_enter Tryd.func27, Tryd.ntmps27
  go_wp2
  all_goals go_ret
  all_goals refine ⟨ret_bool ?_, rfl⟩
  all_goals first | exact decide_eq_decide.2 (by omega) | exact (decide_eq_false (by omega)).symm | (rw [Bool.eq_iff_iff]; simp; done) | (rw [Bool.eq_iff_iff]; simp; omega)
/-- it may be -/
def May (m : Nat → Int) : Prop := (1 ≤ m 0 ∧ m 0 ≤ 6) ∧ (0 ≤ m 1 ∧ m 1 ≤ 1073741824) ∧ (0 ≤ m 2 ∧ m 2 ≤ 1073741824) ∧ (0 ≤ m 3 ∧ m 3 ≤ 1073741824) ∧ (0 ≤ m 4 ∧ m 4 ≤ 1073741824) ∧ (0 ≤ m 5 ∧ m 5 ≤ 1073741824)
instance (m : Nat → Int) : Decidable (May m) := by unfold May; infer_instance
theorem rmay_any (m : Nat → Int) (w : World) :
    Calls Tryd.prog 16 #[rv m] w fun r w' => r = .returned (.bool (decide (May m))) ∧ Below w.heap.size w w' := by
  go_enter Tryd.func16, Tryd.ntmps16
  go_wp2_with (go_at_call 27; refine (count_any _ _).mono ?_; rintro e w1 ⟨rfl, rfl⟩)
  all_goals go_ret
  all_goals refine ⟨ret_bool ?_, (Below.refl _ _).alloc (Nat.le_refl _) _⟩
  all_goals first | exact decide_eq_decide.2 (by unfold May; omega) | exact (decide_eq_false (by unfold May; omega)).symm | (rw [Bool.eq_iff_iff, Bool.and_eq_true, decide_eq_true_iff, decide_eq_true_iff, decide_eq_true_iff]; exact ⟨fun h => ⟨by omega, by omega, by omega, by omega, by omega, h⟩, fun h => h.2.2.2.2.2⟩)
theorem field0 (b : Nat) (w : World) : Calls Tryd.prog 31 #[.pointer (some ⟨b, 0, none⟩)] w fun e w' => e = .returned (.pointer (some ⟨b, 0, none⟩)) ∧ w = w' := by
  go_enter Tryd.func31, Tryd.ntmps31
  go_wp2
  go_ret
  exact ⟨rfl, rfl⟩
theorem field1 (b : Nat) (w : World) : Calls Tryd.prog 32 #[.pointer (some ⟨b, 0, none⟩)] w fun e w' => e = .returned (.pointer (some ⟨b, 1, none⟩)) ∧ w = w' := by
  go_enter Tryd.func32, Tryd.ntmps32
  go_wp2
  go_ret
  exact ⟨rfl, rfl⟩
theorem field2 (b : Nat) (w : World) : Calls Tryd.prog 33 #[.pointer (some ⟨b, 0, none⟩)] w fun e w' => e = .returned (.pointer (some ⟨b, 2, none⟩)) ∧ w = w' := by
  go_enter Tryd.func33, Tryd.ntmps33
  go_wp2
  go_ret
  exact ⟨rfl, rfl⟩
theorem field3 (b : Nat) (w : World) : Calls Tryd.prog 34 #[.pointer (some ⟨b, 0, none⟩)] w fun e w' => e = .returned (.pointer (some ⟨b, 3, none⟩)) ∧ w = w' := by
  go_enter Tryd.func34, Tryd.ntmps34
  go_wp2
  go_ret
  exact ⟨rfl, rfl⟩
theorem field4 (b : Nat) (w : World) : Calls Tryd.prog 35 #[.pointer (some ⟨b, 0, none⟩)] w fun e w' => e = .returned (.pointer (some ⟨b, 4, none⟩)) ∧ w = w' := by
  go_enter Tryd.func35, Tryd.ntmps35
  go_wp2
  go_ret
  exact ⟨rfl, rfl⟩
theorem field5 (b : Nat) (w : World) : Calls Tryd.prog 36 #[.pointer (some ⟨b, 0, none⟩)] w fun e w' => e = .returned (.pointer (some ⟨b, 5, none⟩)) ∧ w = w' := by
  go_enter Tryd.func36, Tryd.ntmps36
  go_wp2
  go_ret
  exact ⟨rfl, rfl⟩
def frow : Obj := .cells #[.func (.func 31) #[] #[], .func (.func 32) #[] #[], .func (.func 33) #[] #[], .func (.func 34) #[] #[], .func (.func 35) #[] #[], .func (.func 36) #[] #[]] 52
theorem fields_any (w : World) : Calls Tryd.prog 23 #[] w fun e w' => e = .returned (.slice (some ⟨w.heap.size, 0, none⟩) 6 6) ∧ w' = w.alloc frow := by
  go_enter Tryd.func23, Tryd.ntmps23
  go_wp2
  go_ret
  exact ⟨rfl, rfl⟩
end Go.Proofs.YtmfkfheakahckaaDoor
