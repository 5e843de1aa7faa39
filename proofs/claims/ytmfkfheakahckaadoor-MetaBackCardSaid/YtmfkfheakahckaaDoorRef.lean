/- What the reference's sum computes: the same as crc.Of; at most 100000 bytes. -/
import Derived.Test.YtmfkfheakahckaaDoorPut
set_option linter.unusedVariables false
namespace Go.Proofs.YtmfkfheakahckaaDoor
open Go.RowKit
theorem and_one (x : BitVec 32) : bits .and .u32 (nv x) 1 = if x.getLsbD 0 then 1 else 0 := by
  have h1 : (1 : Int) = nv (1#32) := rfl
  rw [h1, and32]
  have e : x &&& 1#32 = if x.getLsbD 0 then 1#32 else 0#32 := by
    apply BitVec.eq_of_getLsbD_eq
    intro i hi
    rw [BitVec.getLsbD_and]
    by_cases h0 : i = 0
    · subst h0; cases x.getLsbD 0 <;> simp
    · cases x.getLsbD 0 <;> simp [h0]
  rw [e]
  cases x.getLsbD 0 <;> rfl
theorem half (x : BitVec 32) (h : x.getLsbD 0 = false) : nv x / 2 = nv (Crc.zt x) := by
  rw [shr_nv x 1 2 rfl]; unfold Crc.zt; rw [h]; simp
theorem halfx (x : BitVec 32) (h : x.getLsbD 0 = true) : bits .xor .u32 (nv x / 2) 3988292384 = nv (Crc.zt x) := by
  have hp : (3988292384 : Int) = nv Crc.poly := rfl
  rw [shr_nv x 1 2 rfl, hp, xor32]; unfold Crc.zt; rw [h]; simp
theorem rstep_any (x : BitVec 32) (c : BitVec 8) (w : World) :
    Calls Tryd.prog 40 #[.int .u32 (nv x), .int .u8 (nv c)] w fun e w' => e = .returned (.int .u32 (nv (Crc.byte x c))) ∧ w = w' := by
  have hx : bits .xor .u32 (nv x) (nv c) = nv (x ^^^ c.setWidth 32) := by rw [← wide_nv, xor32]
  obtain ⟨C, HC, hc0, hc1⟩ : ∃ C : Int, Hid (C = nv c) ∧ 0 ≤ C ∧ C < 256 := ⟨_, rfl, nv_nonneg _, nv_lt8 _⟩
  rw [← HC.out] at hx ⊢
  go_enter Tryd.func40, Tryd.ntmps40
  go_wp2
  go_loopg [0, 5] 8 (fun gk s0 s5 wr => ∃ k : Nat, k + gk = 8 ∧ s5 = .int .i64 k ∧ s0 = .int .u32 (nv (Crc.it k (x ^^^ c.setWidth 32))) ∧ w = wr)
  case atStart => exact ⟨0, rfl, rfl, rfl, rfl⟩
  case round =>
    clear hx
    obtain ⟨k, hk, rfl, rfl, rfl⟩ := hrel
    by_cases hlt : k < 8
    · have h1 := and_one (Crc.it k (x ^^^ c.setWidth 32))
      cases hb : (Crc.it k (x ^^^ c.setWidth 32)).getLsbD 0
      · have h2 := half _ hb
        rw [hb] at h1
        simp only [Bool.false_eq_true, if_false] at h1
        go_wp2
        go_roundg (gk - 1)
        case measure => omega
        case rel => exact ⟨k + 1, by omega, by go_num, by rw [Crc.it_succ, ← h2], rfl⟩
      · have h2 := halfx _ hb
        rw [hb] at h1
        simp only [if_true] at h1
        go_wp2
        go_roundg (gk - 1)
        case measure => omega
        case rel => exact ⟨k + 1, by omega, by go_num, by rw [Crc.it_succ, ← h2], rfl⟩
    · obtain rfl : k = 8 := by omega
      go_wp2
      go_ret
      exact ⟨rfl, rfl⟩
theorem rof_any (a : Option Addr) (cap n : Nat) (l : List (BitVec 8)) (w : World) (hn : n = l.length) (hv : Vw w a cap l) (hl : l.length ≤ 100000) :
    Calls Tryd.prog 29 #[.slice a n cap] w fun e w' => e = .returned (.int .i64 (nv (Crc.crc l))) ∧ w = w' := by
  subst hn
  have V := Lib.hid hv
  clear hv
  go_enter Tryd.func29, Tryd.ntmps29
  go_wp2
  go_loopg [3, 4] l.length (fun gk s3 s4 wr => ∃ k : Nat, k + gk = l.length ∧ s4 = .int .i64 k ∧ s3 = .int .u32 (nv (Crc.reg Crc.full (l.take k))) ∧ w = wr)
  case atStart => exact ⟨0, by omega, rfl, rfl, rfl⟩
  case round =>
    obtain ⟨k, hk, rfl, rfl, rfl⟩ := hrel
    by_cases hlt : k < l.length
    · obtain ⟨bb, off, rfl, _, hc⟩ := V.out.at0 (by omega)
      have hcell := hc k l[k] (List.getElem?_eq_getElem hlt)
      have hltI : (k : Int) < (l.length : Int) := by omega
      clear hc
      go_wp2_with (go_at_call 40; refine (rstep_any _ _ _).mono ?_; rintro e w1 ⟨rfl, rfl⟩)
      go_roundg (gk - 1)
      case measure => omega
      case rel => exact ⟨k + 1, by omega, by go_num, by rw [reg_snoc _ _ _ hlt], rfl⟩
    · obtain rfl : k = l.length := by omega
      have hx := xor32 (Crc.reg Crc.full l) Crc.full
      have h0 := nv_nonneg (Crc.reg Crc.full l ^^^ Crc.full)
      have h1 := nv_lt32 (Crc.reg Crc.full l ^^^ Crc.full)
      obtain ⟨X, HX, hX⟩ : ∃ X : Int, Hid (X = nv (Crc.reg Crc.full l ^^^ Crc.full)) ∧ bits .xor .u32 (nv (Crc.reg Crc.full l)) 4294967295 = X ∧ 0 ≤ X ∧ X < 4294967296 := ⟨_, rfl, hx, h0, h1⟩
      obtain ⟨hX1, hX2, hX3⟩ := hX
      clear hx h0 h1
      go_wp2
      go_ret
      exact ⟨by rw [HX.out]; rfl, rfl⟩
end Go.Proofs.YtmfkfheakahckaaDoor
