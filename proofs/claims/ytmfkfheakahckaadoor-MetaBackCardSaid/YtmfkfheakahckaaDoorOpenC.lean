/- meta.Open, at 32 bytes whose sector's sum is another. -/
import Derived.Test.YtmfkfheakahckaaDoorOpenLow
set_option linter.unusedVariables false
namespace Go.Proofs.YtmfkfheakahckaaDoor
open Go.RowKit
set_option maxHeartbeats 4000000 in
theorem open_sector (ab a : Option Addr) (capb cap : Nat) (b l : List (BitVec 8)) (S : Value) (w : World) (hb : Vw w ab capb b) (hv : Vw w a cap l) (hl : l.length ≤ 100000) (hS : Sent w S) (h1 : b.length = 32) (hx : num b 28 = nv (Crc.crc (b.take 28))) (hy : num b 24 ≠ nv (Crc.crc l)) :
    Calls Tryd.prog 11 #[.slice ab b.length capb, .slice a l.length cap] w (Opened b l S w) := by
  have B : Hid (Vw (w.alloc zobj) ab capb b) := hb.grown (World.grownBy_alloc _ zobj none) (by simp)
  have V : Hid (Vw (w.alloc zobj) a cap l) := hv.grown (World.grownBy_alloc _ zobj none) (by simp)
  have HS := Lib.hid hS
  clear hb hv hS
  have C1 : Hid (∀ wx, Bel (w.alloc zobj) wx → Calls Tryd.prog 26 #[.slice ab 32 capb, .int .i64 28] wx (NumC (w.alloc zobj) (num b 28))) := fun wx h => get_call h1.symm (by decide) B.out (by decide) wx h
  have C2 : Hid (∀ wx, Bel (w.alloc zobj) wx → Calls Tryd.prog 25 #[.slice ab 28 capb] wx (NumC (w.alloc zobj) (nv (Crc.crc (b.take 28))))) := fun wx h => of_call (by rw [List.length_take]; omega) (by rw [List.length_take]; omega) (B.out.take 28) wx h
  have C3 : Hid (∀ wx, Bel (w.alloc zobj) wx → Calls Tryd.prog 26 #[.slice ab 32 capb, .int .i64 24] wx (NumC (w.alloc zobj) (num b 24))) := fun wx h => get_call h1.symm (by decide) B.out (by decide) wx h
  have C4 : Hid (∀ wx, Bel (w.alloc zobj) wx → Calls Tryd.prog 25 #[.slice a l.length cap] wx (NumC (w.alloc zobj) (nv (Crc.crc l)))) := fun wx h => of_call rfl hl V.out wx h
  have hcap : 28 ≤ capb := by have := B.out.len; omega
  have hcapI : (28 : Int) ≤ (capb : Int) := by omega
  rw [h1]
  obtain ⟨X1, HX1⟩ : ∃ X : Int, Hid (X = num b 28) := ⟨_, rfl⟩
  obtain ⟨X2, HX2⟩ : ∃ X : Int, Hid (X = nv (Crc.crc (b.take 28))) := ⟨_, rfl⟩
  obtain ⟨X3, HX3⟩ : ∃ X : Int, Hid (X = num b 24) := ⟨_, rfl⟩
  obtain ⟨X4, HX4⟩ : ∃ X : Int, Hid (X = nv (Crc.crc l)) := ⟨_, rfl⟩
  rw [← HX1.out] at C1
  rw [← HX2.out] at C2
  rw [← HX3.out] at C3
  rw [← HX4.out] at C4
  have hnot : Hid (¬ (X1 = X2 ∧ X3 = X4) → ¬ Good b l) := fun h g => h (by rw [HX1.out, HX2.out, HX3.out, HX4.out]; exact ⟨g.1.2.1, g.1.2.2⟩)
  have h2 : X1 = X2 := by rw [HX1.out, HX2.out]; exact hx
  have h3 : ¬ X3 = X4 := by rw [HX3.out, HX4.out]; exact hy
  have g2 : (X1 != X2) = false := by simp [h2]
  have g3 : (X3 != X4) = true := by simp [h3]
  clear h2
  go_enter Tryd.func11, Tryd.ntmps11
  go_wp2_with fail
  have D0 : Bel (w.alloc zobj) (w.alloc zobj).drew := (Below.refl _ _).drew
  go_region_held3 (fun _ => True) (trivial)
    (first
      | (go_at_call 26; (with_reducible refine (C1.out _ D0).mono ?_); rintro e w1 ⟨rfl, D1⟩; clear D0)
      | (go_at_call 25; (with_reducible refine (C2.out _ D1).mono ?_); rintro e w2 ⟨rfl, D2⟩; clear D1)
      | (go_at_call 26; (with_reducible refine (C3.out _ D2).mono ?_); rintro e w3 ⟨rfl, D3⟩; clear D2)
      | (go_at_call 25; (with_reducible refine (C4.out _ D3).mono ?_); rintro e w4 ⟨rfl, D4⟩; clear D3))
  have Z := (blk_new w).far D4 (by simp)
  have c0 : w4.cell? ⟨w.heap.size, 0, none⟩ = some (.int .i64 0) := Z.rec 0 (by decide)
  have c1 : w4.cell? ⟨w.heap.size, 1, none⟩ = some (.int .i64 0) := Z.rec 1 (by decide)
  have c2 : w4.cell? ⟨w.heap.size, 2, none⟩ = some (.int .i64 0) := Z.rec 2 (by decide)
  have c3 : w4.cell? ⟨w.heap.size, 3, none⟩ = some (.int .i64 0) := Z.rec 3 (by decide)
  have c4 : w4.cell? ⟨w.heap.size, 4, none⟩ = some (.int .i64 0) := Z.rec 4 (by decide)
  have c5 : w4.cell? ⟨w.heap.size, 5, none⟩ = some (.int .i64 0) := Z.rec 5 (by decide)
  have f0 := Z.free 0
  have f1 := Z.free 1
  have f2 := Z.free 2
  have f3 := Z.free 3
  have f4 := Z.free 4
  have f5 := Z.free 5
  have hc4 : w4.cell? ⟨0, 0, none⟩ = some S := (HS.out.below (bel_alloc D4) HS.out.2).1
  have hp := HS.out.2
  have hp0 : ¬ w.heap.size = 0 := by omega
  have hp1 : ¬ 0 = w.heap.size := by omega
  have K4 := Lib.hid (bel_alloc D4)
  clear D4 Z
  go_wp2_with fail
  go_region
  go_wp2
  refine bodyPost_ret (v := .tuple #[rv (fun _ => 0), S]) (by simp [results, Tryd.results11, go_sem, c0, c1, c2, c3, c4, c5]) rfl ⟨?_, .inr ⟨hnot.out (fun h => h3 h.2), rfl⟩⟩
  refine Below.drew ?_
  refine Below.setCell ?_ (by exact Nat.le_refl _) _
  refine Below.setCell ?_ (by exact Nat.le_refl _) _
  refine Below.setCell ?_ (by exact Nat.le_refl _) _
  refine Below.setCell ?_ (by exact Nat.le_refl _) _
  refine Below.setCell ?_ (by exact Nat.le_refl _) _
  refine Below.setCell ?_ (by exact Nat.le_refl _) _
  exact K4.out
end Go.Proofs.YtmfkfheakahckaaDoor
