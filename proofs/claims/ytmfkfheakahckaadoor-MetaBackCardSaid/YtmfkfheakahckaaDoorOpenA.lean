/- meta.Open, at bytes that are not 32. -/
import Derived.Test.YtmfkfheakahckaaDoorOpenLow
set_option linter.unusedVariables false
namespace Go.Proofs.YtmfkfheakahckaaDoor
open Go.RowKit
set_option maxHeartbeats 4000000 in
theorem open_len (ab a : Option Addr) (capb cap : Nat) (b l : List (BitVec 8)) (S : Value) (w : World) (hbl : b.length ≤ 100000) (hS : Sent w S) (h1 : b.length ≠ 32) :
    Calls Tryd.prog 11 #[.slice ab b.length capb, .slice a l.length cap] w (Opened b l S w) := by
  have HS := Lib.hid hS
  have hne : (b.length : Int) ≠ 32 := by omega
  have hnot : Hid (¬ False → ¬ Good b l) := fun _ h => h1 h.1.1
  go_enter Tryd.func11, Tryd.ntmps11
  go_wp2_with fail
  go_quiet (fail)
  generalize hw : ((w.alloc zobj).drewN nq) = w4
  have D : Bel (w.alloc zobj) w4 := hw ▸ below_drewN (Below.refl _ _) nq
  clear hw
  have Z := (blk_new w).far D (by simp)
  have c0 : w4.cell? ⟨w.heap.size, 0, none⟩ = some (.int .i64 0) := Z.rec 0 (by decide)
  have c1 : w4.cell? ⟨w.heap.size, 1, none⟩ = some (.int .i64 0) := Z.rec 1 (by decide)
  have c2 : w4.cell? ⟨w.heap.size, 2, none⟩ = some (.int .i64 0) := Z.rec 2 (by decide)
  have c3 : w4.cell? ⟨w.heap.size, 3, none⟩ = some (.int .i64 0) := Z.rec 3 (by decide)
  have c4 : w4.cell? ⟨w.heap.size, 4, none⟩ = some (.int .i64 0) := Z.rec 4 (by decide)
  have c5 : w4.cell? ⟨w.heap.size, 5, none⟩ = some (.int .i64 0) := Z.rec 5 (by decide)
  have f0 := Z.free 0
  have f1 := Z.free 1
  have f2 := Z.free 2
  have f3 := Z.free 3
  have f4 := Z.free 4
  have f5 := Z.free 5
  have hc4 : w4.cell? ⟨0, 0, none⟩ = some S := (HS.out.below (bel_alloc D) HS.out.2).1
  have hp := HS.out.2
  have hp0 : ¬ w.heap.size = 0 := by omega
  have hp1 : ¬ 0 = w.heap.size := by omega
  have K4 := Lib.hid (bel_alloc D)
  clear D Z
  go_wp2_with fail
  go_region
  go_wp2
  refine bodyPost_ret (v := .tuple #[rv (fun _ => 0), S]) (by simp [results, Tryd.results11, go_sem, c0, c1, c2, c3, c4, c5]) rfl ⟨?_, .inr ⟨hnot.out (fun h => h), rfl⟩⟩
  refine Below.drew ?_
  refine Below.setCell ?_ (by exact Nat.le_refl _) _
  refine Below.setCell ?_ (by exact Nat.le_refl _) _
  refine Below.setCell ?_ (by exact Nat.le_refl _) _
  refine Below.setCell ?_ (by exact Nat.le_refl _) _
  refine Below.setCell ?_ (by exact Nat.le_refl _) _
  refine Below.setCell ?_ (by exact Nat.le_refl _) _
  exact K4.out
end Go.Proofs.YtmfkfheakahckaaDoor
