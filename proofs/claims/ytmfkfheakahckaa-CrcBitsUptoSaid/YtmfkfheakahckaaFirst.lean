/- The chapter's examples hold; no condition. -/
import Derived.Test.YtmfkfheakahckaaJoin
import Derived.Lib.SlBytesConst
set_option linter.unusedVariables false
namespace Go.Proofs.Ytmfkfheakahckaa
open Go.RowKit

theorem vw_lit (w : World) (l : List (BitVec 8)) (fr : Nat × Nat) (hl : l.length ≤ maxLen) : Vw (w.alloc (.cells (cells l).toArray 5 fr)) (some ⟨w.heap.size, 0, none⟩) l.length l := by
  refine .inr ⟨_, rfl, Nat.le_refl _, hl, fun i c hc => ?_⟩
  rw [add_none, Nat.zero_add, World.cell?_alloc_mark]
  simp [cells, hc]
theorem of_lit (w : World) (l : List (BitVec 8)) (fr : Nat × Nat) (v : Int) (hl : l.length ≤ 100) (hv : nv (Crc.crc l) = v) :
    Calls Try.prog 13 #[.slice (some ⟨w.heap.size, 0, none⟩) l.length l.length] (w.alloc (.cells (cells l).toArray 5 fr)) fun e w' => e = .returned (.int .i64 v) ∧ Below w.heap.size w w' := by
  subst hv
  exact (of_any _ _ _ l _ rfl (vw_lit w l fr (by unfold maxLen; omega)) (by omega)).mono fun e w' h => ⟨h.1, ((Below.refl _ w).alloc (Nat.le_refl _) _).trans (h.2.mono (by simp))⟩
theorem of_nil (w : World) : Calls Try.prog 13 #[.slice none 0 0] w fun e w' => e = .returned (.int .i64 0) ∧ Below w.heap.size w w' :=
  of_any none 0 0 [] w rfl (Vw.nil w) (by decide)
def s19 : List (BitVec 8) := [49#8, 50#8, 51#8, 52#8, 53#8, 54#8, 55#8, 56#8, 57#8]
def s14 : List (BitVec 8) := [49#8, 50#8, 51#8, 52#8]
def s59 : List (BitVec 8) := [53#8, 54#8, 55#8, 56#8, 57#8]
theorem of_19 (w : World) : Calls Try.prog 13 #[.slice (some ⟨w.heap.size, 0, none⟩) 9 9] (w.alloc (.cells #[.int .u8 49, .int .u8 50, .int .u8 51, .int .u8 52, .int .u8 53, .int .u8 54, .int .u8 55, .int .u8 56, .int .u8 57] 5 (9, 10)))
    fun e w' => e = .returned (.int .i64 3421780262) ∧ Below w.heap.size w w' := of_lit w s19 (9, 10) 3421780262 (by decide) (by decide +kernel)
theorem of_14 (w : World) : Calls Try.prog 13 #[.slice (some ⟨w.heap.size, 0, none⟩) 4 4] (w.alloc (.cells #[.int .u8 49, .int .u8 50, .int .u8 51, .int .u8 52] 5 (4, 5)))
    fun e w' => e = .returned (.int .i64 (nv (Crc.crc s14))) ∧ Below w.heap.size w w' := of_lit w s14 (4, 5) _ (by decide) rfl
theorem of_59 (w : World) : Calls Try.prog 13 #[.slice (some ⟨w.heap.size, 0, none⟩) 5 5] (w.alloc (.cells #[.int .u8 53, .int .u8 54, .int .u8 55, .int .u8 56, .int .u8 57] 5 (5, 6)))
    fun e w' => e = .returned (.int .i64 (nv (Crc.crc s59))) ∧ Below w.heap.size w w' := of_lit w s59 (5, 6) _ (by decide) rfl
theorem of_0 (w : World) : Calls Try.prog 13 #[.slice (some ⟨w.heap.size, 0, none⟩) 1 1] (w.alloc (.cells #[.int .u8 0] 5))
    fun e w' => e = .returned (.int .i64 (nv (Crc.crc [0#8]))) ∧ Below w.heap.size w w' := of_lit w [0#8] (0, 0) _ (by decide) rfl
theorem of_1 (w : World) : Calls Try.prog 13 #[.slice (some ⟨w.heap.size, 0, none⟩) 1 1] (w.alloc (.cells #[.int .u8 1] 5))
    fun e w' => e = .returned (.int .i64 (nv (Crc.crc [1#8]))) ∧ Below w.heap.size w w' := of_lit w [1#8] (0, 0) _ (by decide) rfl
theorem join_ex (w : World) : Calls Try.prog 14 #[.int .i64 (nv (Crc.crc s14)), .int .i64 (nv (Crc.crc s59)), .int .i64 5] w fun e w' => e = .returned (.int .i64 3421780262) ∧ Below w.heap.size w w' :=
  (join_any (Crc.crc s14) (Crc.crc s59) 5 w (by decide)).mono fun _ _ h => ⟨h.1.trans (ret_int (by decide +kernel)), h.2⟩
theorem flip_ex (w : World) : Calls Try.prog 16 #[.int .i64 1, .int .i64 0] w fun e w' => e = .returned (.int .i64 (nv (Crc.fl 1 0))) ∧ Below w.heap.size w w' := flipped_any 1 0 w (by decide) (by decide)
theorem first_any (w : World) : Calls Try.prog 8 #[] w fun e w' => e = .returned (.bool true) ∧ Below w.heap.size w w' := by
  have kc := fun (w : World) (C : Array Value) (n c : Nat) => Lib.run_convert_bytes_const (P := Try.prog) w 22 5 C n c Try.underlying22 Try.underlying5
  go_enter Try.func8, Try.ntmps8
  go_wp2_with fail
  refine (of_19 _).mono ?_
  rintro e w1 ⟨rfl, hb1⟩
  go_wp2_with fail
  refine (of_nil _).mono ?_
  rintro e w2 ⟨rfl, hb2⟩
  go_wp2_with fail
  refine (of_14 _).mono ?_
  rintro e w3 ⟨rfl, hb3⟩
  go_wp2_with fail
  refine (of_59 _).mono ?_
  rintro e w4 ⟨rfl, hb4⟩
  go_wp2_with fail
  refine (join_ex _).mono ?_
  rintro e w5 ⟨rfl, hb5⟩
  go_wp2_with fail
  refine (flip_ex _).mono ?_
  rintro e w6 ⟨rfl, hb6⟩
  go_wp2_with fail
  refine (of_0 _).mono ?_
  rintro e w7 ⟨rfl, hb7⟩
  go_wp2_with fail
  refine (of_1 _).mono ?_
  rintro e w8 ⟨rfl, hb8⟩
  have hb : Below w.heap.size w w8 := by
    have h2 := hb1.trans (hb2.mono hb1.size)
    have h3 := h2.trans (hb3.mono h2.size)
    have h4 := h3.trans (hb4.mono h3.size)
    have h5 := h4.trans (hb5.mono h4.size)
    have h6 := h5.trans (hb6.mono h5.size)
    have h7 := h6.trans (hb7.mono h6.size)
    exact h7.trans (hb8.mono h7.size)
  clear hb1 hb2 hb3 hb4 hb5 hb6 hb7 hb8
  have hx : (nv (Crc.fl 1 0) == bits .xor .i64 (nv (Crc.crc [0#8])) (nv (Crc.crc [1#8]))) = true := by decide +kernel
  go_wp2
  go_ret
  exact ⟨rfl, hb⟩
end Go.Proofs.Ytmfkfheakahckaa
