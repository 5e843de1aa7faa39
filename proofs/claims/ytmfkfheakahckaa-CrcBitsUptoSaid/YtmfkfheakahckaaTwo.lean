/- The walk of CrcTwo: it returns true and changes nothing that was there; no condition. -/
import Derived.Test.YtmfkfheakahckaaJoins
set_option linter.unusedVariables false
namespace Go.Proofs.Ytmfkfheakahckaa
open Go.RowKit

theorem pow8_nv (k : Nat) : (2 : Int) ^ k % 256 = nv (1#8 <<< k) := by
  unfold nv
  rw [BitVec.toNat_shiftLeft, Nat.shiftLeft_eq]
  simp
theorem flip_cells (bl : List (BitVec 8)) (I : Nat) : cells (Crc.flip bl I) = (cells bl).set (I / 8) (.int .u8 (nv ((bl[I / 8]?.getD 0#8) ^^^ (1#8 <<< (I % 8))))) := cells_set _ _ _
theorem turn_spell (c : BitVec 8) (I : Nat) (k : Nat) (hk : k = I % 8) : bits .xor .u8 (nv c) (2 ^ k % 256) = nv (c ^^^ (1#8 <<< (I % 8))) := by rw [hk, pow8_nv, xor8]
theorem within (a : Int) (n : Nat) (hn : 0 < n) : ∃ A : Nat, (a.tmod (8 * (n : Int)) + 8 * (n : Int)) % (8 * (n : Int)) = (A : Int) ∧ A < 8 * n := by
  have h0 := Int.emod_nonneg (a.tmod (8 * (n : Int)) + 8 * (n : Int)) (show 8 * (n : Int) ≠ 0 by omega)
  have h1 := Int.emod_lt_of_pos (a.tmod (8 * (n : Int)) + 8 * (n : Int)) (show 0 < 8 * (n : Int) by omega)
  exact ⟨((a.tmod (8 * (n : Int)) + 8 * (n : Int)) % (8 * (n : Int))).toNat, by omega, by omega⟩
theorem flip_flip (bl : List (BitVec 8)) (I : Nat) : Crc.flip (Crc.flip bl I) I = bl := by
  unfold Crc.flip
  rw [List.set_set]
  by_cases h : I / 8 < bl.length
  · rw [List.getElem?_eq_getElem (by simpa using h), List.getElem_set_self]
    simp [h, BitVec.xor_assoc]
  · rw [List.set_eq_of_length_le (by omega)]
theorem two_ne {bl : List (BitVec 8)} {I J : Nat} (hn : bl.length ≤ 2000) (hI : I < 8 * bl.length) (hJ : J < 8 * bl.length) (h : I ≠ J) : (nv (Crc.crc (Crc.flip (Crc.flip bl I) J)) == nv (Crc.crc bl)) = false := by
  apply beq_eq_false_iff_ne.2
  intro e
  have e := nv_inj e
  rw [Crc.crc_flip _ _ (by rw [Crc.flip_length]; exact hJ), Crc.crc_flip _ _ hI, Crc.flip_length, BitVec.xor_assoc] at e
  have e2 : Crc.fl bl.length I ^^^ Crc.fl bl.length J = 0#32 := by
    have := congrArg (Crc.crc bl ^^^ ·) e
    simpa [← BitVec.xor_assoc] using this
  exact Crc.fl_ne hn hI hJ h (Crc.xor_eq_zero e2)
theorem fl_bne {n I J : Nat} (hn : n ≤ 2000) (hI : I < 8 * n) (hJ : J < 8 * n) (h : I ≠ J) : (nv (Crc.fl n I) != nv (Crc.fl n J)) = true := by
  simp only [bne_iff_ne]
  intro e
  exact Crc.fl_ne hn hI hJ h (nv_inj e)
theorem flipc {w wx : World} {n k : Nat} {v : Int} (hS : Bel w wx) (hn : (n : Int) ≤ 1048576) (hk : k < 8 * n) (hv : nv (Crc.fl n k) = v) : Calls Try.prog 16 #[.int .i64 n, .int .i64 k] wx (NumC w v) := by
  subst hv
  exact (flipped_any n k wx hn hk).mono fun _ _ h => ⟨h.1, hS.later h.2⟩
theorem two_walk (a0 : Option Addr) (cap0 : Nat) (bl : List (BitVec 8)) (i j : Int) (w : World) (hb : Vw w a0 cap0 bl) :
    Calls Try.prog 6 #[.slice a0 bl.length cap0, .int .i64 i, .int .i64 j] w fun e w' => e = .returned (.bool true) ∧ Below w.heap.size w w' := by
  have hbl := hb.len
  unfold maxLen at hbl
  have HV := Lib.hid hb
  clear hb
  by_cases hn : 2000 < bl.length
  · have hn' : (2000 : Int) < (bl.length : Int) := by omega
    go_enter Try.func6, Try.ntmps6
    go_wp2_with fail
    refine (first_any _).mono ?_
    rintro e w1 ⟨rfl, hb1⟩
    go_wp2
    go_ret
    exact ⟨rfl, hb1⟩
  by_cases hz : bl.length ≤ 0
  · have hz' : ((bl.length : Int) == 0) = true := by simp; exact List.length_eq_zero_iff.1 (by omega)
    go_enter Try.func6, Try.ntmps6
    go_wp2_with fail
    refine (first_any _).mono ?_
    rintro e w1 ⟨rfl, hb1⟩
    go_wp2
    go_ret
    exact ⟨rfl, hb1⟩
  have hl5 : bl.length ≤ 100000 := by omega
  have hz' : (1 : Int) ≤ (bl.length : Int) := by omega
  have hzb : ((bl.length : Int) == 0) = false := by simp; intro e; simp [e] at hz
  obtain ⟨I, eI, hI⟩ := within i bl.length (by omega)
  obtain ⟨J, eJ, hJ⟩ := within j bl.length (by omega)
  have hti : -(8 * (bl.length : Int)) < i.tmod (8 * (bl.length : Int)) ∧ i.tmod (8 * (bl.length : Int)) < 8 * (bl.length : Int) := by
    have := tmod_bd i (8 * bl.length) (by omega); simpa using this
  have htj : -(8 * (bl.length : Int)) < j.tmod (8 * (bl.length : Int)) ∧ j.tmod (8 * (bl.length : Int)) < 8 * (bl.length : Int) := by
    have := tmod_bd j (8 * bl.length) (by omega); simpa using this
  obtain ⟨hti0, hti1⟩ := hti
  obtain ⟨htj0, htj1⟩ := htj
  have EI := Lib.hid eI
  have EJ := Lib.hid eJ
  clear eI eJ
  go_enter Try.func6, Try.ntmps6
  go_wp2_with fail
  refine (first_any _).mono ?_
  rintro e w1 ⟨rfl, hb1⟩
  go_upto_region 7 with (fail)
  rw [EI.out, EJ.out]
  clear hti0 hti1 htj0 htj1
  go_wp2_with (fail)
  refine (copy_n a0 cap0 _ bl w1 rfl (HV.out.below hb1 (Nat.le_refl _)) hl5).mono ?_
  rintro e w2 ⟨vx, rfl, hx, hb2⟩
  obtain ⟨gx, cx, rfl, hgx, hcx, hgx2⟩ := own_shape hx (by omega)
  have D2 : Bel w w2 := Bel.later hb1 hb2
  have hgw : w.heap.size ≤ gx := Nat.le_trans hb1.size hgx
  have hcI : w2.cell? ⟨gx, I / 8, none⟩ = some (.int .u8 (nv (bl[I / 8]?.getD 0#8))) := by
    rw [hx.cellAt (I / 8) (by omega), cells_get, List.getElem?_eq_getElem (by omega)]; rfl
  have hfI := hx.frozenAt (I / 8)
  have hx3 := (hx.stored (I / 8) (.int .u8 (nv ((bl[I / 8]?.getD 0#8) ^^^ (1#8 <<< (I % 8)))))).1
  rw [← flip_cells] at hx3
  have HX3 := Lib.hid hx3
  have D3 : Hid (Bel w (w2.setCell ⟨gx, I / 8, none⟩ (.int .u8 (nv ((bl[I / 8]?.getD 0#8) ^^^ (1#8 <<< (I % 8))))))) := Below.setCell D2 hgw _
  clear hx hx3 hb1 hb2 D2
  go_upto_region 9 with (fail)
  rw [turn_spell _ I _ rfl]
  obtain ⟨w3, hw3⟩ : ∃ w3, w2.setCell ⟨gx, I / 8, none⟩ (.int .u8 (nv ((bl[I / 8]?.getD 0#8) ^^^ (1#8 <<< (I % 8))))) = w3 := ⟨_, rfl⟩
  rw [hw3] at HX3 D3 ⊢
  clear hw3 hcI hfI
  obtain ⟨b1, hb1⟩ : ∃ b1, Crc.flip bl I = b1 := ⟨_, rfl⟩
  have hb1l : b1.length = bl.length := by rw [← hb1, Crc.flip_length]
  rw [hb1] at HX3
  have HB1 := Lib.hid hb1
  have HBL := Lib.hid hb1l
  clear hb1 hb1l
  have hcJ : w3.cell? ⟨gx, J / 8, none⟩ = some (.int .u8 (nv (b1[J / 8]?.getD 0#8))) := by
    rw [HX3.out.cellAt (J / 8) (by omega), cells_get, List.getElem?_eq_getElem (by rw [HBL.out]; omega)]; rfl
  have hfJ := HX3.out.frozenAt (J / 8)
  have hx4 := (HX3.out.stored (J / 8) (.int .u8 (nv ((b1[J / 8]?.getD 0#8) ^^^ (1#8 <<< (J % 8)))))).1
  rw [← flip_cells] at hx4
  have HX4 := Lib.hid hx4
  have D4 : Hid (Bel w (w3.setCell ⟨gx, J / 8, none⟩ (.int .u8 (nv ((b1[J / 8]?.getD 0#8) ^^^ (1#8 <<< (J % 8))))))) := Below.setCell D3.out hgw _
  clear hx4
  go_upto_region 10 with (fail)
  rw [turn_spell _ J _ rfl]
  obtain ⟨w4, hw4⟩ : ∃ w4, w3.setCell ⟨gx, J / 8, none⟩ (.int .u8 (nv ((b1[J / 8]?.getD 0#8) ^^^ (1#8 <<< (J % 8))))) = w4 := ⟨_, rfl⟩
  rw [hw4] at HX4 D4 ⊢
  clear hw4 hcJ hfJ HX3 D3
  have hl2 : bl.length = (Crc.flip b1 J).length := by rw [Crc.flip_length, HBL.out]
  have HL2 := Lib.hid hl2
  obtain ⟨Vx, hVx⟩ : ∃ V, nv (Crc.crc (Crc.flip b1 J)) = V := ⟨_, rfl⟩
  obtain ⟨Vb, hVb⟩ : ∃ V, nv (Crc.crc bl) = V := ⟨_, rfl⟩
  have HVx := Lib.hid hVx
  have HVb := Lib.hid hVb
  have D4' := D4.out
  have D5 : Bel w w4 := D4'
  clear hl2 hVx hVb D4 D4'
  go_wp2_with (fail)
  refine (of_any _ _ _ (Crc.flip b1 J) w4 HL2.out (Vw.of_own HX4.out).2 (by rw [← HL2.out]; exact hl5)).mono ?_
  rintro e w5 ⟨rfl, hb5⟩
  rw [HVx.out]
  have D6 : Hid (Bel w w5) := D5.later hb5
  clear D5 hb5
  go_wp2_with (fail)
  refine (ofc D6.out HV.out rfl hl5 HVb.out).mono ?_
  rintro e w6 ⟨rfl, hd7⟩
  have D7 := Lib.hid hd7
  clear hd7
  by_cases hIJ : I = J
  · subst hIJ
    have hv : (Vx == Vb) = true := by rw [← HVx.out, ← HVb.out, ← HB1.out, flip_flip]; simp
    go_wp2
    go_ret
    exact ⟨rfl, D7.out⟩
  · have hv : (Vx == Vb) = false := by rw [← HVx.out, ← HVb.out, ← HB1.out]; exact two_ne (by omega) hI hJ hIJ
    have hij : ((I : Int) == (J : Int)) = false := by simp; omega
    obtain ⟨FI, hFI⟩ : ∃ V, nv (Crc.fl bl.length I) = V := ⟨_, rfl⟩
    obtain ⟨FJ, hFJ⟩ : ∃ V, nv (Crc.fl bl.length J) = V := ⟨_, rfl⟩
    have hne := fl_bne (by omega) hI hJ hIJ
    rw [hFI, hFJ] at hne
    have HFI := Lib.hid hFI
    have HFJ := Lib.hid hFJ
    clear hFI hFJ hIJ
    go_wp2_with (fail)
    refine (flipc D7.out (by omega) hI HFI.out).mono ?_
    rintro e w7 ⟨rfl, hd8⟩
    have D8 := Lib.hid hd8
    clear hd8
    go_wp2_with (fail)
    refine (flipc D8.out (by omega) hJ HFJ.out).mono ?_
    rintro e w8 ⟨rfl, hd9⟩
    have D9 := Lib.hid hd9
    clear hd9
    go_wp2
    go_ret
    exact ⟨rfl, D9.out⟩
end Go.Proofs.Ytmfkfheakahckaa
