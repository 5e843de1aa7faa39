/- What Seed and the examples of the chapter compute; no condition. -/
import Derived.Test.YtbdlilgpalfnfaaLow
import Derived.Deep.QuietTactic
import Derived.BigQuiet
import Derived.Deep.RegionWith
set_option linter.unusedVariables false
namespace Go.Proofs.Ytbdlilgpalfnfaa
open Go.RowKit

/-- a number as 0 to MaxNum -/
def cn (n : Int) : Int := min (max n 0) 1073741824
theorem cn_bd (n : Int) : 0 ≤ cn n ∧ cn n ≤ 1073741824 := by unfold cn; omega
theorem in_walk (n : Int) (w : World) : Calls Try.prog 23 #[.int .i64 n] w fun e w' => e = .returned (.int .i64 (cn n)) ∧ w' = w := by
  rcases (show n < 0 ∨ (0 ≤ n ∧ n ≤ 1073741824) ∨ 1073741824 < n by omega) with hn | ⟨h0, h1⟩ | hn
  · have H : Hid (cn n = 0) := by unfold Hid cn; omega
    go_enter Try.func23, Try.ntmps23
    go_wp2
    go_ret
    exact ⟨ret_int (by rw [H.out]), rfl⟩
  · have H : Hid (cn n = n) := by unfold Hid cn; omega
    go_enter Try.func23, Try.ntmps23
    go_wp2
    go_ret
    exact ⟨ret_int (by rw [H.out]), rfl⟩
  · have H : Hid (cn n = 1073741824) := by unfold Hid cn; omega
    go_enter Try.func23, Try.ntmps23
    go_wp2
    go_ret
    exact ⟨ret_int (by rw [H.out]), rfl⟩
/-- the seed of a place -/
def sd (b p : Int) : Int := (1 + 257 * cn b + 31 * cn p) % 65536
theorem seed_any (b p : Int) (w : World) : Calls Try.prog 19 #[.agg #[.int .i64 b, .int .i64 p]] w fun e w' => e = .returned (.int .i64 (sd b p)) ∧ Below w.heap.size w w' := by
  obtain ⟨hx0, hx1⟩ := cn_bd b
  obtain ⟨hy0, hy1⟩ := cn_bd p
  go_enter Try.func19, Try.ntmps19
  go_wp2
  go_quiet ((go_at_call 23; exact Calls.quiet_of_same (in_walk _ _)))
  go_wp2
  go_ret
  exact ⟨rfl, below_drewN ((Below.refl _ _).alloc (Nat.le_refl _) _) _⟩
theorem seed_12 (w : World) : Calls Try.prog 19 #[.agg #[.int .i64 1, .int .i64 2]] w fun e w' => e = .returned (.int .i64 320) ∧ Below w.heap.size w w' := seed_any 1 2 w
theorem seed_10 (w : World) : Calls Try.prog 19 #[.agg #[.int .i64 (-1), .int .i64 0]] w fun e w' => e = .returned (.int .i64 1) ∧ Below w.heap.size w w' := seed_any (-1) 0 w
theorem next_1 (b : Nat) (w : World) (h : Reg w b (ini 1)) : Calls Try.prog 16 #[.pointer (some ⟨b, 0, none⟩)] w fun e w' => e = .returned (.int .i64 1) ∧ w.grownBy w' (some b) :=
  (next_reg b _ w h).mono fun _ _ ⟨he, _, hg⟩ => ⟨he.trans (ret_int (by decide +kernel)), hg⟩
theorem next_0 (b : Nat) (w : World) (h : Reg w b (ini 0)) : Calls Try.prog 16 #[.pointer (some ⟨b, 0, none⟩)] w fun e w' => e = .returned (.int .i64 225) ∧ w.grownBy w' (some b) :=
  (next_reg b _ w h).mono fun _ _ ⟨he, _, hg⟩ => ⟨he.trans (ret_int (by decide +kernel)), hg⟩
/-- The chapter's examples hold; nothing that was there is changed. -/
theorem first_any (w : World) : Calls Try.prog 7 #[] w fun e w' => e = .returned (.bool true) ∧ Below w.heap.size w w' := by
  go_enter Try.func7, Try.ntmps7
  go_wp2_with fail
  refine (new_reg _ _).mono ?_
  rintro e w1 ⟨rfl, hr1, hg1⟩
  go_wp2_with fail
  refine (new_reg _ _).mono ?_
  rintro e w2 ⟨rfl, hr2, hg2⟩
  go_wp2_with fail
  refine (next_1 _ _ (hr1.kept hg2 (by simp))).mono ?_
  rintro e w3 ⟨rfl, hg3⟩
  have hlt := hr1.lt
  go_wp2_with fail
  refine (next_0 _ _ (hr2.kept hg3 (by simp; omega))).mono ?_
  rintro e w4 ⟨rfl, hg4⟩
  have hb : Below w.heap.size w w4 := by
    have b1 : Below w.heap.size w w2 := ((Below.refl _ _).grown hg1 (Nat.le_refl _) (by simp)).grown hg2 (by omega) (by simp)
    exact (b1.grown hg3 b1.size (by simp)).grown hg4 (by have := b1.size; have := hg3.size; omega) (by simp; omega)
  clear hr1 hr2 hg1 hg2 hg3 hg4 hlt
  go_wp2_with fail
  refine (seed_12 _).mono ?_
  rintro e w5 ⟨rfl, hb5⟩
  go_wp2_with fail
  refine (seed_10 _).mono ?_
  rintro e w6 ⟨rfl, hb6⟩
  go_wp2
  go_ret
  exact ⟨rfl, (hb.trans (hb5.mono hb.size)).trans (hb6.mono (Nat.le_trans hb.size hb5.size))⟩
end Go.Proofs.Ytbdlilgpalfnfaa
