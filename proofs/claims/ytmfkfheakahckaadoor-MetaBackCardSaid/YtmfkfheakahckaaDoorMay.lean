/- What meta.May computes; no condition. -/
import Derived.Test.YtmfkfheakahckaaDoorSmall
set_option linter.unusedVariables false
namespace Go.Proofs.YtmfkfheakahckaaDoor
open Go.RowKit
/-- a record lies in block b -/
def Rec (w : World) (b : Nat) (m : Nat → Int) : Prop := ∀ i, i < 6 → w.cell? ⟨b, i, none⟩ = some (.int .i64 (m i))
/-- the six functions lie in block b -/
def Funs (w : World) (b : Nat) : Prop := ∀ i, i < 6 → w.cell? ⟨b, i, none⟩ = some (.func (.func (31 + i)) #[] #[])
theorem Rec.kept {w w' : World} {b : Nat} {m : Nat → Int} {row : Option Nat} (h : Rec w b m) (g : w.grownBy w' row) (hne : some b ≠ row) : Rec w' b m :=
  fun i hi => g.cell (h i hi) hne
theorem Funs.kept {w w' : World} {b : Nat} {row : Option Nat} (h : Funs w b) (g : w.grownBy w' row) (hne : some b ≠ row) : Funs w' b :=
  fun i hi => g.cell (h i hi) hne
theorem Rec.below {w w' : World} {B b : Nat} {m : Nat → Int} (h : Rec w b m) (g : Below B w w') (hB : w.heap.size ≤ B) : Rec w' b m :=
  fun i hi => by have h := h i hi; rw [g.cell (by have := World.block_lt_of_cell? w _ h; omega)]; exact h
theorem Funs.below {w w' : World} {B b : Nat} (h : Funs w b) (g : Below B w w') (hB : w.heap.size ≤ B) : Funs w' b :=
  fun i hi => by have h := h i hi; rw [g.cell (by have := World.block_lt_of_cell? w _ h; omega)]; exact h
theorem rec_new (w : World) (m : Nat → Int) (t : TypeId) : Rec (w.alloc (.cells #[.int .i64 (m 0), .int .i64 (m 1), .int .i64 (m 2), .int .i64 (m 3), .int .i64 (m 4), .int .i64 (m 5)] t)) w.heap.size m := by
  intro i hi
  rw [World.cell?_alloc_mark]
  match i, hi with
  | 0, _ => rfl
  | 1, _ => rfl
  | 2, _ => rfl
  | 3, _ => rfl
  | 4, _ => rfl
  | 5, _ => rfl
theorem funs_new (w : World) : Funs (w.alloc frow) w.heap.size := by
  intro i hi
  unfold frow
  rw [World.cell?_alloc_mark]
  match i, hi with
  | 0, _ => rfl
  | 1, _ => rfl
  | 2, _ => rfl
  | 3, _ => rfl
  | 4, _ => rfl
  | 5, _ => rfl
theorem may_all {m : Nat → Int} (h : ∀ i, i < 6 → 0 ≤ m i ∧ m i ≤ 1073741824) (h0 : 1 ≤ m 0 ∧ m 0 ≤ 6) : May m :=
  ⟨h0, h 1 (by decide), h 2 (by decide), h 3 (by decide), h 4 (by decide), h 5 (by decide)⟩
theorem May.le {m : Nat → Int} (h : May m) (i : Nat) (hi : i < 6) : 0 ≤ m i ∧ m i ≤ 1073741824 := by
  obtain ⟨h0, h1, h2, h3, h4, h5⟩ := h
  match i, hi with
  | 0, _ => omega
  | 1, _ => exact h1
  | 2, _ => exact h2
  | 3, _ => exact h3
  | 4, _ => exact h4
  | 5, _ => exact h5
set_option maxHeartbeats 4000000 in
theorem may_any (m : Nat → Int) (w : World) :
    Calls Tryd.prog 14 #[rv m] w fun r w' => r = .returned (.bool (decide (May m))) ∧ Below w.heap.size w w' := by
  go_enter Tryd.func14, Tryd.ntmps14
  go_wp2_with fail
  refine (fields_any _).mono ?_
  rintro e w1 ⟨rfl, rfl⟩
  go_wp2
  have RA := rec_new w m 23
  have RA1 := RA.kept (World.grownBy_alloc _ (.cells #[.int .i64 (m 0), .int .i64 (m 1), .int .i64 (m 2), .int .i64 (m 3), .int .i64 (m 4), .int .i64 (m 5)] 49) none) (by simp)
  have RB := rec_new (w.alloc (.cells #[.int .i64 (m 0), .int .i64 (m 1), .int .i64 (m 2), .int .i64 (m 3), .int .i64 (m 4), .int .i64 (m 5)] 23)) m 49
  have RA2 := Lib.hid (RA1.kept (World.grownBy_alloc _ frow none) (by simp))
  have RB2 := Lib.hid (RB.kept (World.grownBy_alloc _ frow none) (by simp))
  have RF := Lib.hid (funs_new ((w.alloc (.cells #[.int .i64 (m 0), .int .i64 (m 1), .int .i64 (m 2), .int .i64 (m 3), .int .i64 (m 4), .int .i64 (m 5)] 23)).alloc (.cells #[.int .i64 (m 0), .int .i64 (m 1), .int .i64 (m 2), .int .i64 (m 3), .int .i64 (m 4), .int .i64 (m 5)] 49)))
  have HB := Lib.hid ((((Below.refl w.heap.size w).alloc (Nat.le_refl _) (.cells #[.int .i64 (m 0), .int .i64 (m 1), .int .i64 (m 2), .int .i64 (m 3), .int .i64 (m 4), .int .i64 (m 5)] 23)).alloc (by simp) (.cells #[.int .i64 (m 0), .int .i64 (m 1), .int .i64 (m 2), .int .i64 (m 3), .int .i64 (m 4), .int .i64 (m 5)] 49)).alloc (by simp; omega) frow)
  clear RA RA1 RB
  go_loopg [11] 6 (fun gk s11 wr => ∃ k : Nat, k + gk = 6 ∧ s11 = .int .i64 k ∧ (∀ i, i < k → 0 ≤ m i ∧ m i ≤ 1073741824) ∧ Rec wr w.heap.size m ∧ Rec wr (w.heap.size + 1) m ∧ Funs wr (w.heap.size + 1 + 1) ∧ Below w.heap.size w wr)
  case atStart => exact ⟨0, rfl, rfl, fun i h => absurd h (by omega), RA2.out, (by simpa using RB2.out), (by simpa using RF.out), HB.out⟩
  case round =>
    clear RA2 RB2 RF HB
    obtain ⟨k, hk, rfl, hall, hA, hB, hF, hb⟩ := hrel
    have HALL := Lib.hid hall
    have HA := Lib.hid hA
    have HB := Lib.hid hB
    have HF := Lib.hid hF
    have HBL := Lib.hid hb
    clear hall hA hB hF hb
    obtain rfl | rfl | rfl | rfl | rfl | rfl | rfl : k = 0 ∨ k = 1 ∨ k = 2 ∨ k = 3 ∨ k = 4 ∨ k = 5 ∨ k = 6 := by omega
    · have hc : wr.cell? ⟨w.heap.size + 1, 0, none⟩ = some (.int .i64 (m 0)) := HB.out 0 (by decide)
      have hf : wr.cell? ⟨w.heap.size + 1 + 1, 0, none⟩ = some (.func (.func 31) #[] #[]) := HF.out 0 (by decide)
      go_wp2_with (go_at_call 31; refine (field0 _ _).mono ?_; rintro e w1 ⟨rfl, rfl⟩)
      · go_ret
        exact ⟨ret_bool (decide_eq_false (fun h => by have := h.le 0 (by decide); omega)).symm, HBL.out⟩
      · go_roundg (gk - 1)
        case measure => omega
        case rel => exact ⟨1, by omega, by go_num, fun i hi => by
          by_cases h' : i < 0
          · exact HALL.out i h'
          · obtain rfl : i = 0 := by omega
            omega, HA.out, HB.out, HF.out, HBL.out⟩
      · go_ret
        exact ⟨ret_bool (decide_eq_false (fun h => by have := h.le 0 (by decide); omega)).symm, HBL.out⟩
    · have hc : wr.cell? ⟨w.heap.size + 1, 1, none⟩ = some (.int .i64 (m 1)) := HB.out 1 (by decide)
      have hf : wr.cell? ⟨w.heap.size + 1 + 1, 1, none⟩ = some (.func (.func 32) #[] #[]) := HF.out 1 (by decide)
      go_wp2_with (go_at_call 32; refine (field1 _ _).mono ?_; rintro e w1 ⟨rfl, rfl⟩)
      · go_ret
        exact ⟨ret_bool (decide_eq_false (fun h => by have := h.le 1 (by decide); omega)).symm, HBL.out⟩
      · go_roundg (gk - 1)
        case measure => omega
        case rel => exact ⟨2, by omega, by go_num, fun i hi => by
          by_cases h' : i < 1
          · exact HALL.out i h'
          · obtain rfl : i = 1 := by omega
            omega, HA.out, HB.out, HF.out, HBL.out⟩
      · go_ret
        exact ⟨ret_bool (decide_eq_false (fun h => by have := h.le 1 (by decide); omega)).symm, HBL.out⟩
    · have hc : wr.cell? ⟨w.heap.size + 1, 2, none⟩ = some (.int .i64 (m 2)) := HB.out 2 (by decide)
      have hf : wr.cell? ⟨w.heap.size + 1 + 1, 2, none⟩ = some (.func (.func 33) #[] #[]) := HF.out 2 (by decide)
      go_wp2_with (go_at_call 33; refine (field2 _ _).mono ?_; rintro e w1 ⟨rfl, rfl⟩)
      · go_ret
        exact ⟨ret_bool (decide_eq_false (fun h => by have := h.le 2 (by decide); omega)).symm, HBL.out⟩
      · go_roundg (gk - 1)
        case measure => omega
        case rel => exact ⟨3, by omega, by go_num, fun i hi => by
          by_cases h' : i < 2
          · exact HALL.out i h'
          · obtain rfl : i = 2 := by omega
            omega, HA.out, HB.out, HF.out, HBL.out⟩
      · go_ret
        exact ⟨ret_bool (decide_eq_false (fun h => by have := h.le 2 (by decide); omega)).symm, HBL.out⟩
    · have hc : wr.cell? ⟨w.heap.size + 1, 3, none⟩ = some (.int .i64 (m 3)) := HB.out 3 (by decide)
      have hf : wr.cell? ⟨w.heap.size + 1 + 1, 3, none⟩ = some (.func (.func 34) #[] #[]) := HF.out 3 (by decide)
      go_wp2_with (go_at_call 34; refine (field3 _ _).mono ?_; rintro e w1 ⟨rfl, rfl⟩)
      · go_ret
        exact ⟨ret_bool (decide_eq_false (fun h => by have := h.le 3 (by decide); omega)).symm, HBL.out⟩
      · go_roundg (gk - 1)
        case measure => omega
        case rel => exact ⟨4, by omega, by go_num, fun i hi => by
          by_cases h' : i < 3
          · exact HALL.out i h'
          · obtain rfl : i = 3 := by omega
            omega, HA.out, HB.out, HF.out, HBL.out⟩
      · go_ret
        exact ⟨ret_bool (decide_eq_false (fun h => by have := h.le 3 (by decide); omega)).symm, HBL.out⟩
    · have hc : wr.cell? ⟨w.heap.size + 1, 4, none⟩ = some (.int .i64 (m 4)) := HB.out 4 (by decide)
      have hf : wr.cell? ⟨w.heap.size + 1 + 1, 4, none⟩ = some (.func (.func 35) #[] #[]) := HF.out 4 (by decide)
      go_wp2_with (go_at_call 35; refine (field4 _ _).mono ?_; rintro e w1 ⟨rfl, rfl⟩)
      · go_ret
        exact ⟨ret_bool (decide_eq_false (fun h => by have := h.le 4 (by decide); omega)).symm, HBL.out⟩
      · go_roundg (gk - 1)
        case measure => omega
        case rel => exact ⟨5, by omega, by go_num, fun i hi => by
          by_cases h' : i < 4
          · exact HALL.out i h'
          · obtain rfl : i = 4 := by omega
            omega, HA.out, HB.out, HF.out, HBL.out⟩
      · go_ret
        exact ⟨ret_bool (decide_eq_false (fun h => by have := h.le 4 (by decide); omega)).symm, HBL.out⟩
    · have hc : wr.cell? ⟨w.heap.size + 1, 5, none⟩ = some (.int .i64 (m 5)) := HB.out 5 (by decide)
      have hf : wr.cell? ⟨w.heap.size + 1 + 1, 5, none⟩ = some (.func (.func 36) #[] #[]) := HF.out 5 (by decide)
      go_wp2_with (go_at_call 36; refine (field5 _ _).mono ?_; rintro e w1 ⟨rfl, rfl⟩)
      · go_ret
        exact ⟨ret_bool (decide_eq_false (fun h => by have := h.le 5 (by decide); omega)).symm, HBL.out⟩
      · go_roundg (gk - 1)
        case measure => omega
        case rel => exact ⟨6, by omega, by go_num, fun i hi => by
          by_cases h' : i < 5
          · exact HALL.out i h'
          · obtain rfl : i = 5 := by omega
            omega, HA.out, HB.out, HF.out, HBL.out⟩
      · go_ret
        exact ⟨ret_bool (decide_eq_false (fun h => by have := h.le 5 (by decide); omega)).symm, HBL.out⟩
    · have hc : wr.cell? ⟨w.heap.size, 0, none⟩ = some (.int .i64 (m 0)) := HA.out 0 (by decide)
      have hm : Hid (¬ (1 ≤ m 0 ∧ m 0 ≤ 6) → decide (May m) = false) := fun h => decide_eq_false (fun hh => h hh.1)
      have hm' : Hid ((1 ≤ m 0 ∧ m 0 ≤ 6) → decide (May m) = true) := fun h => decide_eq_true (may_all (fun i hi => HALL.out i hi) h)
      go_wp2
      all_goals go_ret
      all_goals refine ⟨ret_bool ?_, HBL.out⟩
      all_goals by_cases hh : 1 ≤ m 0 ∧ m 0 ≤ 6
      all_goals first | rw [hm'.out hh] | rw [hm.out hh]
      all_goals simp
      all_goals omega
end Go.Proofs.YtmfkfheakahckaaDoor
