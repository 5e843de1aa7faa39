/- What the small functions of package scramble do: step, Next, New; no condition beside the stream's cell. -/
import Derived.Test.YtbdlilgpalfnfaaRows
import Derived.Test.YtbdlilgpalfnfaaKit
import Derived.Outline
set_option linter.unusedVariables false
namespace Go.Proofs.Ytbdlilgpalfnfaa
open Go.RowKit

theorem step_walk (b : Nat) (x : Int) (w : World) (h0 : 0 ≤ x) (h1 : x < 65536) (hc : w.cell? ⟨b, 0, none⟩ = some (.int .u16 x)) (hf : w.frozen? ⟨b, 0, none⟩ = false) :
    Calls Try.prog 22 #[.pointer (some ⟨b, 0, none⟩)] w fun e w' => e = .returned (.int .i64 (wrap64 (bits .and .u16 x 1))) ∧
      w.setCell ⟨b, 0, none⟩ (.int .u16 (bits BinOp.or IntKind.u16 (x / 2) (IntKind.u16.wrap (bits BinOp.xor IntKind.u16 (bits BinOp.xor IntKind.u16 (bits BinOp.xor IntKind.u16 x (x / 4)) (x / 8)) (x / 32) * 32768)))) = w' := by
  go_enter Try.func22, Try.ntmps22
  go_wp2
  go_ret
  exact ⟨rfl, rfl⟩
theorem step_any (b : Nat) (x : BitVec 16) (w : World) (hc : w.cell? ⟨b, 0, none⟩ = some (.int .u16 (nv x))) (hf : w.frozen? ⟨b, 0, none⟩ = false) :
    Calls Try.prog 22 #[.pointer (some ⟨b, 0, none⟩)] w fun e w' => e = .returned (.int .i64 (bit0 x)) ∧ w.setCell ⟨b, 0, none⟩ (.int .u16 (nv (Scr.st x))) = w' := by
  refine (step_walk b (nv x) w (nv_nonneg x) (nv_lt16 x) hc hf).mono ?_
  rintro e w' ⟨rfl, rfl⟩
  exact ⟨by rw [and1]; rfl, by rw [st_spell]⟩
theorem step_reg (b : Nat) (x : BitVec 16) (w : World) (h : Reg w b x) :
    Calls Try.prog 22 #[.pointer (some ⟨b, 0, none⟩)] w fun e w' => e = .returned (.int .i64 (bit0 x)) ∧ Reg w' b (Scr.st x) ∧ w.grownBy w' (some b) := by
  refine (step_any b x w h.cell h.free).mono ?_
  rintro e w' ⟨rfl, rfl⟩
  exact ⟨rfl, h.set _, gset _ _ _ _⟩

/-- Next: the lowest eight bits; eight steps on. -/
theorem next_reg (b : Nat) (x : BitVec 16) (w : World) (h : Reg w b x) :
    Calls Try.prog 16 #[.pointer (some ⟨b, 0, none⟩)] w fun e w' => e = .returned (.int .i64 (low x 8)) ∧ Reg w' b (Scr.it 8 x) ∧ w.grownBy w' (some b) := by
  go_enter Try.func16, Try.ntmps16
  go_wp2
  go_loopw [3, 5] (fun v c wr => ∃ k : Nat, k ≤ 8 ∧ c = .int .i64 k ∧ v = .int .i64 (low x k) ∧ Reg wr b (Scr.it k x) ∧ w.grownBy wr (some b)) (fun _ c _ => 8 - (intOf c).toNat)
  case atStart => exact ⟨0, by omega, rfl, by simp [low], h, grefl _ _⟩
  case round =>
    obtain ⟨k, hk, rfl, rfl, hr, hg⟩ := hrel
    by_cases hlt : k < 8
    · have hl := low_succ x k hlt
      have HL := Lib.hid hl
      clear hl
      go_wp2_with (go_at_call 22; refine (step_reg _ _ _ hr).mono ?_; rintro e w1 ⟨rfl, hr1, hg1⟩)
      go_roundw
      case rel =>
        refine ⟨k + 1, by omega, by go_num, ?_, ?_, gtrans hg hg1⟩
        · rw [HL.out]
        · rw [Scr.it_succ]; exact hr1
      case measure => simp [intOf]; omega
    · go_wp2
      go_ret
      obtain rfl : k = 8 := by omega
      exact ⟨rfl, hr, hg⟩
/-- the bits that a seed begins with -/
def ini (seed : Int) : BitVec 16 := if BitVec.ofInt 16 seed = 0#16 then 44257#16 else BitVec.ofInt 16 seed
theorem wrap16_ofInt (n : Int) : IntKind.u16.wrap n = nv (BitVec.ofInt 16 n) := by
  rw [IntKind.wrap_u16]; unfold nv; rw [BitVec.toNat_ofInt]; omega
theorem new_reg (seed : Int) (w : World) :
    Calls Try.prog 12 #[.int .i64 seed] w fun e w' => e = .returned (.pointer (some ⟨w.heap.size, 0, none⟩)) ∧ Reg w' w.heap.size (ini seed) ∧ w.grownBy w' none := by
  by_cases h : BitVec.ofInt 16 seed = 0#16
  · have e1 : IntKind.u16.wrap seed = 0 := by rw [wrap16_ofInt, h]; rfl
    have hi : ini seed = 44257#16 := if_pos h
    have H2 := Lib.hid hi
    clear h hi
    have ht : (IntKind.u16.wrap seed == 0) = true := by simp [e1]
    clear e1
    go_enter Try.func12, Try.ntmps12
    go_wp2
    go_ret
    exact ⟨rfl, by rw [H2.out]; exact Reg.new w (44257#16), World.grownBy_alloc _ _ _⟩
  · have hi : ini seed = BitVec.ofInt 16 seed := if_neg h
    have e1 := wrap16_ofInt seed
    have ht : (IntKind.u16.wrap seed == 0) = false := by
      rw [e1]; apply beq_eq_false_iff_ne.2; intro e; exact h (nv_inj (y := 0#16) e)
    have H1 := Lib.hid e1
    have H2 := Lib.hid hi
    clear h hi e1
    go_enter Try.func12, Try.ntmps12
    go_wp2
    go_ret
    exact ⟨rfl, by rw [H2.out, H1.out]; exact Reg.new w _, World.grownBy_alloc _ _ _⟩
/-- how many bytes are skipped -/
def cl (n : Int) : Nat := (min (max n 0) 1048576).toNat
theorem ret_int {k : IntKind} {a b : Int} (h : a = b) : Ending.returned (.int k a) = .returned (.int k b) := by rw [h]
theorem gbut {a c : World} (h : a.grownBy c none) (row : Option Nat) : a.grownBy c row := ⟨h.os, h.tape, h.output, h.size, fun i hi _ => h.block i hi (by simp)⟩
set_option maxRecDepth 100000 in
theorem skip_any (seed n : Int) (w : World) :
    Calls Try.prog 8 #[.int .i64 seed, .int .i64 n] w fun e w' => e = .returned (.int .i64 (nv (Scr.it (8 * cl n) (ini seed)))) ∧ Below w.heap.size w w' := by
  rcases (show n < 0 ∨ (0 ≤ n ∧ n ≤ 1048576) ∨ 1048576 < n by omega) with hn | ⟨h0, h1⟩ | hn
  · have H : Hid (cl n = 0) := by unfold Hid cl; omega
    go_enter Try.func8, Try.ntmps8
    go_wp2_with (go_at_call 12; refine (new_reg _ _).mono ?_; rintro e w1 ⟨rfl, hr1, hg1⟩)
    go_loopw [11] (fun c wr => ∃ k : Nat, k ≤ 0 ∧ c = .int .i64 k ∧ Reg wr w.heap.size (Scr.it (8 * k) (ini seed)) ∧ w.grownBy wr (some w.heap.size)) (fun c _ => 0 - (intOf c).toNat)
    case atStart => exact ⟨0, by omega, rfl, hr1, gbut hg1 _⟩
    case round =>
      obtain ⟨k, hk, rfl, hr, hg⟩ := hrel
      clear hr1 hg1
      have hlt : ¬ k < 0 := by omega
      have hcell := hr.cell
      obtain ⟨X, HX, hb1, hb2⟩ : ∃ X : Int, Hid (X = nv (Scr.it (8 * k) (ini seed))) ∧ X < 65536 ∧ 0 ≤ X := ⟨_, rfl, nv_lt16 _, nv_nonneg _⟩
      rw [← HX.out] at hcell
      have HR := Lib.hid hr
      clear hr
      go_wp2
      go_ret
      exact ⟨ret_int (by rw [HX.out, H.out, show k = 0 by omega]), Below.of_grown hg (Nat.le_refl _) (Nat.le_refl _)⟩
  · obtain ⟨m, rfl⟩ : ∃ m : Nat, n = m := ⟨n.toNat, by omega⟩
    have H : Hid (cl m = m) := by unfold Hid cl; omega
    go_enter Try.func8, Try.ntmps8
    go_wp2_with (go_at_call 12; refine (new_reg _ _).mono ?_; rintro e w1 ⟨rfl, hr1, hg1⟩)
    go_loopw [11] (fun c wr => ∃ k : Nat, k ≤ m ∧ c = .int .i64 k ∧ Reg wr w.heap.size (Scr.it (8 * k) (ini seed)) ∧ w.grownBy wr (some w.heap.size)) (fun c _ => m - (intOf c).toNat)
    case atStart => exact ⟨0, by omega, rfl, hr1, gbut hg1 _⟩
    case round =>
      obtain ⟨k, hk, rfl, hr, hg⟩ := hrel
      clear hr1 hg1
      by_cases hlt : k < m
      · go_wp2_with (go_at_call 16; refine (next_reg _ _ _ hr).mono ?_; rintro e w2 ⟨rfl, hr2, hg2⟩)
        go_roundw
        case rel => exact ⟨k + 1, by omega, by go_num, by rw [show 8 * (k + 1) = 8 * k + 8 by omega, Scr.it_add]; exact hr2, gtrans hg hg2⟩
        case measure => simp [intOf]; omega
      · have hcell := hr.cell
        obtain ⟨X, HX, hb1, hb2⟩ : ∃ X : Int, Hid (X = nv (Scr.it (8 * k) (ini seed))) ∧ X < 65536 ∧ 0 ≤ X := ⟨_, rfl, nv_lt16 _, nv_nonneg _⟩
        rw [← HX.out] at hcell
        have HR := Lib.hid hr
        clear hr
        go_wp2
        go_ret
        exact ⟨ret_int (by rw [HX.out, H.out, show k = m by omega]), Below.of_grown hg (Nat.le_refl _) (Nat.le_refl _)⟩
  · obtain ⟨m, hm1, hm2, H⟩ : ∃ m : Nat, (m : Int) < 1048577 ∧ Hid ((1048576 : Int) = m) ∧ Hid (cl n = m) := ⟨cl n, by unfold cl; omega, by unfold Hid cl; omega, rfl⟩
    go_enter Try.func8, Try.ntmps8
    go_wp2_with (go_at_call 12; refine (new_reg _ _).mono ?_; rintro e w1 ⟨rfl, hr1, hg1⟩)
    rw [hm2.out]
    clear hn
    go_loopw [11] (fun c wr => ∃ k : Nat, k ≤ m ∧ c = .int .i64 k ∧ Reg wr w.heap.size (Scr.it (8 * k) (ini seed)) ∧ w.grownBy wr (some w.heap.size)) (fun c _ => m - (intOf c).toNat)
    case atStart => exact ⟨0, by omega, rfl, hr1, gbut hg1 _⟩
    case round =>
      obtain ⟨k, hk, rfl, hr, hg⟩ := hrel
      clear hr1 hg1
      by_cases hlt : k < m
      · go_wp2_with (go_at_call 16; refine (next_reg _ _ _ hr).mono ?_; rintro e w2 ⟨rfl, hr2, hg2⟩)
        go_roundw
        case rel => exact ⟨k + 1, by omega, by go_num, by rw [show 8 * (k + 1) = 8 * k + 8 by omega, Scr.it_add]; exact hr2, gtrans hg hg2⟩
        case measure => simp [intOf]; omega
      · have hcell := hr.cell
        obtain ⟨X, HX, hb1, hb2⟩ : ∃ X : Int, Hid (X = nv (Scr.it (8 * k) (ini seed))) ∧ X < 65536 ∧ 0 ≤ X := ⟨_, rfl, nv_lt16 _, nv_nonneg _⟩
        rw [← HX.out] at hcell
        have HR := Lib.hid hr
        clear hr
        go_wp2
        go_ret
        exact ⟨ret_int (by rw [HX.out, H.out, show k = m by omega]), Below.of_grown hg (Nat.le_refl _) (Nat.le_refl _)⟩
end Go.Proofs.Ytbdlilgpalfnfaa
