/- What package crc's small functions compute: step, New, Byte, each, Write, Value, Of; at most 100000 bytes. -/
import Derived.Test.YtmfkfheakahckaaDoorView
import Derived.Deep.LoopGhost
set_option linter.unusedVariables false
namespace Go.Proofs.YtmfkfheakahckaaDoor
open Go.RowKit

theorem step_walk (x : Int) (w : World) (h0 : 0 ≤ x) (h1 : x < 4294967296) :
    Calls Tryd.prog 43 #[.int .u32 x] w fun e w' => e = .returned (.int .u32 (bits .xor .u32 (x / 2) (bits .and .u32 3988292384 (IntKind.u32.wrap (-(bits .and .u32 x 1)))))) ∧ w = w' := by
  go_enter Tryd.func43, Tryd.ntmps43
  go_wp2
  go_ret
  exact ⟨rfl, rfl⟩
theorem step_any (x : BitVec 32) (w : World) : Calls Tryd.prog 43 #[.int .u32 (nv x)] w fun e w' => e = .returned (.int .u32 (nv (Crc.zt x))) ∧ w = w' := by
  have := step_walk (nv x) w (nv_nonneg x) (nv_lt32 x)
  rwa [zt_spell] at this
theorem new_any (w : World) : Calls Tryd.prog 37 #[] w fun e w' => e = .returned (.pointer (some ⟨w.heap.size, 0, none⟩)) ∧ Sm w' w.heap.size Crc.full ∧ w.grownBy w' none := by
  go_enter Tryd.func37, Tryd.ntmps37
  go_wp2
  go_ret
  exact ⟨rfl, Sm.new w Crc.full, World.grownBy_alloc _ _ _⟩
theorem byte_any (b : Nat) (x : BitVec 32) (c : BitVec 8) (w : World) (h : Sm w b x) :
    Calls Tryd.prog 42 #[.pointer (some ⟨b, 0, none⟩), .int .u8 (nv c)] w fun e w' => e = .returned (.tuple #[]) ∧ Sm w' b (Crc.byte x c) ∧ w.grownBy w' (some b) := by
  have hc := h.cell
  have hf := h.free
  have H := Lib.hid h
  have hx : Hid (bits .xor .u32 (nv x) (nv c) = nv (x ^^^ c.setWidth 32)) := by unfold Hid; rw [← wide_nv, xor32]
  obtain ⟨C, HC, hc0, hc1⟩ : ∃ C : Int, Hid (C = nv c) ∧ 0 ≤ C ∧ C < 256 := ⟨_, rfl, nv_nonneg _, nv_lt8 _⟩
  rw [← HC.out]
  clear h
  go_enter Tryd.func42, Tryd.ntmps42
  go_wp2
  go_loopg [13] 8 (fun gk s13 wr => ∃ k : Nat, k + gk = 8 ∧ s13 = .int .i64 k ∧ Sm wr b (Crc.it k (x ^^^ c.setWidth 32)) ∧ w.grownBy wr (some b))
  case atStart => exact ⟨0, rfl, rfl, by rw [HC.out, hx.out]; exact H.out.set _, gset _ _ _ _⟩
  case round =>
    clear hc hf
    obtain ⟨k, hk, rfl, hr, hg⟩ := hrel
    by_cases hlt : k < 8
    · have hc := hr.cell
      have hf := hr.free
      have HR := Lib.hid hr
      have HG := Lib.hid hg
      clear hr hg
      go_wp2_with (go_at_call 43; refine (step_any _ _).mono ?_; rintro e w1 ⟨rfl, rfl⟩)
      go_roundg (gk - 1)
      case measure => omega
      case rel => exact ⟨k + 1, by omega, by go_num, by rw [Crc.it_succ]; exact HR.out.set _, gtrans HG.out (gset _ _ _ _)⟩
    · obtain rfl : k = 8 := by omega
      go_wp2
      go_end0
      exact ⟨rfl, hr, hg⟩
theorem value_any (b : Nat) (x : BitVec 32) (w : World) (h : Sm w b x) :
    Calls Tryd.prog 39 #[.pointer (some ⟨b, 0, none⟩)] w fun e w' => e = .returned (.int .i64 (nv (x ^^^ Crc.full))) ∧ w = w' := by
  have hc := h.cell
  have hx := xor32 x Crc.full
  have h0 := nv_nonneg (x ^^^ Crc.full)
  have h1 := nv_lt32 (x ^^^ Crc.full)
  obtain ⟨X, HX, hX⟩ : ∃ X : Int, Hid (X = nv (x ^^^ Crc.full)) ∧ bits .xor .u32 (nv x) 4294967295 = X ∧ 0 ≤ X ∧ X < 4294967296 := ⟨_, rfl, hx, h0, h1⟩
  obtain ⟨hX1, hX2, hX3⟩ := hX
  rw [← HX.out]
  clear hx h0 h1 h
  go_enter Tryd.func39, Tryd.ntmps39
  go_wp2
  go_ret
  exact ⟨rfl, rfl⟩
theorem reg_snoc (x : BitVec 32) (l : List (BitVec 8)) (k : Nat) (hk : k < l.length) : Crc.reg x (l.take (k + 1)) = Crc.byte (Crc.reg x (l.take k)) l[k] := by
  rw [List.take_succ_eq_append_getElem hk, Crc.reg_append]; rfl
theorem each_some (b : Nat) (x : BitVec 32) (bb off : Nat) (cap : Nat) (l : List (BitVec 8)) (w : World) (h : Sm w b x) (hc : ∀ i c, l[i]? = some c → w.cell? ⟨bb, off + i, none⟩ = some (.int .u8 (nv c))) (hne : some bb ≠ some b) (hl : l.length ≤ 100000) :
    Calls Tryd.prog 41 #[.slice (some ⟨bb, off, none⟩) l.length cap, .func (.func 42) #[.pointer (some ⟨b, 0, none⟩)] #[]] w fun e w' => e = .returned (.tuple #[]) ∧ Sm w' b (Crc.reg x l) ∧ w.grownBy w' (some b) := by
  have HC := Lib.hid hc
  have H := Lib.hid h
  clear hc h
  go_enter Tryd.func41, Tryd.ntmps41
  go_wp2
  go_loopg [8] l.length (fun gk s8 wr => ∃ k : Nat, k + gk = l.length ∧ s8 = .int .i64 k ∧ Sm wr b (Crc.reg x (l.take k)) ∧ w.grownBy wr (some b))
  case atStart => exact ⟨0, by omega, rfl, H.out, grefl _ _⟩
  case round =>
    obtain ⟨k, hk, rfl, hr, hg⟩ := hrel
    by_cases hlt : k < l.length
    · have hcell : wr.cell? ⟨bb, off + k, none⟩ = some (.int .u8 (nv l[k])) := hg.cell (HC.out k _ (List.getElem?_eq_getElem hlt)) hne
      have hltI : (k : Int) < (l.length : Int) := by omega
      have HR := Lib.hid hr
      have HG := Lib.hid hg
      clear hr hg
      go_wp2_with (go_at_call 42; refine (byte_any _ _ _ _ HR.out).mono ?_; rintro e w1 ⟨rfl, hr1, hg1⟩; have HR1 := Lib.hid hr1; have HG1 := Lib.hid hg1; clear hr1 hg1)
      go_roundg (gk - 1)
      case measure => omega
      case rel => exact ⟨k + 1, by omega, by go_num, by rw [reg_snoc _ _ _ hlt]; exact HR1.out, gtrans HG.out HG1.out⟩
    · obtain rfl : k = l.length := by omega
      rw [List.take_length] at hr
      go_wp2
      go_end0
      exact ⟨rfl, hr, hg⟩
theorem each_none (b : Nat) (x : BitVec 32) (a : Option Addr) (cap : Nat) (w : World) (h : Sm w b x) :
    Calls Tryd.prog 41 #[.slice a 0 cap, .func (.func 42) #[.pointer (some ⟨b, 0, none⟩)] #[]] w fun e w' => e = .returned (.tuple #[]) ∧ Sm w' b x ∧ w.grownBy w' (some b) := by
  have H := Lib.hid h
  clear h
  go_enter Tryd.func41, Tryd.ntmps41
  go_wp2
  refine wp_loop_rounds 1 ?_
  rw [rounds_succ]
  go_wp2
  go_end0
  exact ⟨rfl, H.out, grefl _ _⟩
theorem each_any (b : Nat) (x : BitVec 32) (a : Option Addr) (cap : Nat) (l : List (BitVec 8)) (w : World) (h : Sm w b x) (hv : Vw w a cap l) (hne : ∀ y, a = some y → 0 < l.length → some y.block ≠ some b) (hl : l.length ≤ 100000) :
    Calls Tryd.prog 41 #[.slice a l.length cap, .func (.func 42) #[.pointer (some ⟨b, 0, none⟩)] #[]] w fun e w' => e = .returned (.tuple #[]) ∧ Sm w' b (Crc.reg x l) ∧ w.grownBy w' (some b) := by
  by_cases h0 : 0 < l.length
  · obtain ⟨bb, off, rfl, _, hc⟩ := hv.at0 h0
    exact each_some b x bb off cap l w h hc (hne _ rfl h0) hl
  · obtain rfl : l = [] := List.length_eq_zero_iff.1 (by omega)
    exact each_none b x a cap w h
/-- Write: the register behind the bytes -/
theorem write_any (b : Nat) (x : BitVec 32) (a : Option Addr) (cap n : Nat) (l : List (BitVec 8)) (w : World) (hn : n = l.length) (h : Sm w b x) (hv : Vw w a cap l) (hne : ∀ y, a = some y → 0 < l.length → some y.block ≠ some b) (hl : l.length ≤ 100000) :
    Calls Tryd.prog 38 #[.pointer (some ⟨b, 0, none⟩), .slice a n cap] w fun e w' => e = .returned (.tuple #[]) ∧ Sm w' b (Crc.reg x l) ∧ w.grownBy w' (some b) := by
  subst hn
  have H := Lib.hid h
  have V := Lib.hid hv
  have N := Lib.hid hne
  clear h hv hne
  go_enter Tryd.func38, Tryd.ntmps38
  go_wp2_with fail
  refine (each_any b x a cap l w H.out V.out N.out hl).mono ?_
  rintro e w1 ⟨rfl, h1, h2⟩
  go_wp2
  go_end0
  exact ⟨rfl, h1, h2⟩
/-- Of: the sum; nothing that was there is changed -/
theorem of_any (a : Option Addr) (cap n : Nat) (l : List (BitVec 8)) (w : World) (hn : n = l.length) (hv : Vw w a cap l) (hl : l.length ≤ 100000) :
    Calls Tryd.prog 25 #[.slice a n cap] w fun e w' => e = .returned (.int .i64 (nv (Crc.crc l))) ∧ Below w.heap.size w w' := by
  subst hn
  have V := Lib.hid hv
  clear hv
  have hN : Hid (∀ y, a = some y → 0 < l.length → some y.block ≠ some w.heap.size) := fun y e h0 => by
    obtain ⟨bb, off, e2, hlt, _⟩ := V.out.at0 h0
    rw [e2] at e; cases e
    exact ne_of_lt' hlt
  go_enter Tryd.func25, Tryd.ntmps25
  go_wp2_with fail
  refine (new_any _).mono ?_
  rintro e w1 ⟨rfl, h1, g1⟩
  have V1 : Hid (Vw w1 a cap l) := V.out.grown g1 (by simp)
  have H1 := Lib.hid h1
  have G1 := Lib.hid g1
  clear h1 g1
  go_wp2_with fail
  refine (write_any w.heap.size _ a cap _ l w1 rfl H1.out V1.out hN.out hl).mono ?_
  rintro e w2 ⟨rfl, h2, g2⟩
  have H2 := Lib.hid h2
  have G2 := Lib.hid g2
  clear h2 g2
  go_wp2_with fail
  refine (value_any w.heap.size _ w2 H2.out).mono ?_
  rintro e w3 ⟨rfl, rfl⟩
  go_wp2
  go_ret
  exact ⟨rfl, ((Below.refl _ _).grown G1.out (Nat.le_refl _) (by simp)).grown G2.out G1.out.size (fun k e => by cases e; exact Nat.le_refl _)⟩
end Go.Proofs.YtmfkfheakahckaaDoor
