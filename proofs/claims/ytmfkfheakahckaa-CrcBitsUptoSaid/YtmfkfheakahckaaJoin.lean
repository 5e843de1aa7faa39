/- What Join and Flipped compute, of sums and numbers within their bounds; and the chapter's examples. -/
import Derived.Test.YtmfkfheakahckaaFar2
set_option linter.unusedVariables false
namespace Go.Proofs.Ytmfkfheakahckaa
open Go.RowKit

theorem far_n (X N : Int) (x : BitVec 32) (B : Nat) (w : World) (hX : X = nv x) (hN : N = B) (hB : N ≤ 1073741824) :
    Calls Try.prog 19 #[.int .u32 X, .int .i64 N] w fun e w' => e = .returned (.int .u32 (nv (Crc.it B x))) ∧ Below w.heap.size w w' := by
  subst hX hN; exact far_any x B w hB
theorem join_any (x y : BitVec 32) (n : Nat) (w : World) (hn : (n : Int) ≤ 1048576) :
    Calls Try.prog 14 #[.int .i64 (nv x), .int .i64 (nv y), .int .i64 n] w fun e w' => e = .returned (.int .i64 (nv (Crc.it (8 * n) x ^^^ y))) ∧ Below w.heap.size w w' := by
  obtain ⟨X, HX, hx0, hx1⟩ : ∃ X : Int, Hid (X = nv x) ∧ 0 ≤ X ∧ X < 4294967296 := ⟨_, rfl, nv_nonneg x, nv_lt32 x⟩
  obtain ⟨Y, HY, hy0, hy1⟩ : ∃ X : Int, Hid (X = nv y) ∧ 0 ≤ X ∧ X < 4294967296 := ⟨_, rfl, nv_nonneg y, nv_lt32 y⟩
  obtain ⟨R, HR, hr0, hr1⟩ : ∃ X : Int, Hid (X = nv (Crc.it (8 * n) x ^^^ y)) ∧ 0 ≤ X ∧ X < 4294967296 := ⟨_, rfl, nv_nonneg _, nv_lt32 _⟩
  obtain ⟨N, HN, hn0, hn1⟩ : ∃ N : Int, Hid (N = (n : Int)) ∧ 0 ≤ N ∧ N ≤ 1048576 := ⟨_, rfl, by omega, hn⟩
  have hxr : Hid (bits .xor .u32 (nv (Crc.it (8 * n) x)) Y = R) := by unfold Hid; rw [HY.out, HR.out, xor32]
  rw [← HX.out, ← HY.out, ← HN.out, ← HR.out]
  clear hn
  go_enter Try.func14, Try.ntmps14
  go_wp2_with fail
  refine (far_n _ _ x (8 * n) _ HX.out (by rw [HN.out]; omega) (by omega)).mono ?_
  rintro e w1 ⟨rfl, hb⟩
  have hxr2 := hxr.out
  go_wp2
  go_ret
  exact ⟨rfl, hb⟩
theorem flipped_any (n k : Nat) (w : World) (hn : (n : Int) ≤ 1048576) (hk : k < 8 * n) :
    Calls Try.prog 16 #[.int .i64 n, .int .i64 k] w fun e w' => e = .returned (.int .i64 (nv (Crc.fl n k))) ∧ Below w.heap.size w w' := by
  obtain ⟨R, HR, hr0, hr1⟩ : ∃ X : Int, Hid (X = nv (Crc.fl n k)) ∧ 0 ≤ X ∧ X < 4294967296 := ⟨_, rfl, nv_nonneg _, nv_lt32 _⟩
  obtain ⟨N, HN, hn0, hn1⟩ : ∃ N : Int, Hid (N = (n : Int)) ∧ 0 ≤ N ∧ N ≤ 1048576 := ⟨_, rfl, by omega, hn⟩
  obtain ⟨K, HK, hk0, hk1⟩ : ∃ K : Int, Hid (K = (k : Int)) ∧ 0 ≤ K ∧ K < 8 * N := ⟨_, rfl, by omega, by have := HN.out; omega⟩
  rw [← HN.out, ← HK.out, ← HR.out]
  clear hn
  go_enter Try.func16, Try.ntmps16
  go_wp2_with fail
  refine (far_n _ _ (1#32 <<< (k % 8)) (8 * (n - k / 8)) _ (by rw [pow_nv, HK.out]; congr 1) (by rw [HN.out, HK.out]; omega) (by omega)).mono ?_
  rintro e w1 ⟨rfl, hb⟩
  have hxr : nv (Crc.it (8 * (n - k / 8)) (1#32 <<< (k % 8))) = R := HR.out.symm
  go_wp2
  go_ret
  exact ⟨rfl, hb⟩
end Go.Proofs.Ytmfkfheakahckaa
