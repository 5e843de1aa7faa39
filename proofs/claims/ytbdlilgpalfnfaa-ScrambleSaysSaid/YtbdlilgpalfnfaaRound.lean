/- The walk of ScrambleRound: it returns true and changes nothing that was there, for all three numbers; no condition. -/
import Derived.Test.YtbdlilgpalfnfaaSeed
set_option linter.unusedVariables false
namespace Go.Proofs.Ytbdlilgpalfnfaa
open Go.RowKit

theorem and_pow_i64 (a : Int) (k : Nat) (hk : k ≤ 62) : bits .and .i64 a (((2 ^ k - 1 : Nat) : Nat) : Int) = a % (2 ^ k : Nat) := by
  show IntKind.i64.wrap ((BitVec.ofInt 64 a &&& BitVec.ofInt 64 ((2 ^ k - 1 : Nat) : Int)).toNat : Int) = _
  have h2 : (2 : Nat) ^ k ≤ 2 ^ 62 := Nat.pow_le_pow_right (by omega) hk
  have h1 : (BitVec.ofInt 64 ((2 ^ k - 1 : Nat) : Int)).toNat = 2 ^ k - 1 := by
    rw [BitVec.ofInt_natCast, BitVec.toNat_ofNat]; exact Nat.mod_eq_of_lt (by omega)
  rw [BitVec.toNat_and, h1, Nat.and_two_pow_sub_one_eq_mod, BitVec.toNat_ofInt, IntKind.wrap_i64]
  have hp : 0 < 2 ^ k := Nat.two_pow_pos k
  have hd : (2 : Int) ^ 64 = ((2 ^ k : Nat) : Int) * ((2 ^ (64 - k) : Nat) : Int) := by
    rw [← Int.natCast_mul, ← Nat.pow_add, show k + (64 - k) = 64 by omega]; rfl
  have e : (((a % 2 ^ 64).toNat % 2 ^ k : Nat) : Int) = a % ((2 ^ k : Nat) : Int) := by
    rw [Int.natCast_emod, Int.toNat_of_nonneg (Int.emod_nonneg _ (by decide)), hd]
    exact Int.emod_emod_of_dvd _ ⟨_, rfl⟩
  have hb1 : 0 ≤ a % ((2 ^ k : Nat) : Int) := Int.emod_nonneg _ (by omega)
  have hb2 : a % ((2 ^ k : Nat) : Int) < ((2 ^ k : Nat) : Int) := Int.emod_lt_of_pos _ (by omega)
  simp only [show ((2 : Nat) ^ 64 : Nat) = 18446744073709551616 from rfl] at *
  have e' : (((a % ((18446744073709551616 : Nat) : Int)).toNat % 2 ^ k : Nat) : Int) = a % ((2 ^ k : Nat) : Int) := e
  rw [e']
  omega
theorem and8191 (a : Int) : ∃ m : Nat, m ≤ 8191 ∧ bits .and .i64 a 8191 = (m : Int) :=
  ⟨(a % 8192).toNat, by omega, by have := and_pow_i64 a 13 (by omega); rw [show (8191 : Int) = ((2 ^ 13 - 1 : Nat) : Int) from rfl, this]; simp; omega⟩
theorem ini_ne (seed : Int) : ini seed ≠ 0#16 := by unfold ini; split; decide; assumption
theorem ini_nv (x : BitVec 16) (h : x ≠ 0#16) : ini (nv x) = x := by unfold ini; rw [ofInt_nv, if_neg h]
theorem skip_nat (seed : Int) (n : Nat) (hn : n ≤ 1048576) (w : World) :
    Calls Try.prog 8 #[.int .i64 seed, .int .i64 n] w fun e w' => e = .returned (.int .i64 (nv (Scr.it (8 * n) (ini seed)))) ∧ Below w.heap.size w w' := by
  have e : cl n = n := by unfold cl; omega
  have := skip_any seed n w
  rwa [e] at this
/-- the bits behind n bytes, as a number -/
def xs (seed : Int) (n : Nat) : Int := nv (Scr.it (8 * n) (ini seed))
theorem xs_bd (seed : Int) (n : Nat) : 0 < xs seed n ∧ xs seed n < 65536 := by
  refine ⟨?_, nv_lt16 _⟩
  have h : Scr.it (8 * n) (ini seed) ≠ 0#16 := fun e => ini_ne seed (Scr.it_inj0 _ _ e)
  have h0 := nv_nonneg (Scr.it (8 * n) (ini seed))
  unfold xs
  have : nv (Scr.it (8 * n) (ini seed)) ≠ 0 := fun e => h (nv_inj (y := 0#16) e)
  omega
theorem xs_xs (seed : Int) (m n : Nat) : xs (xs seed m) n = xs seed (m + n) := by
  unfold xs
  rw [ini_nv _ (fun e => ini_ne seed (Scr.it_inj0 _ _ e)), Nat.mul_add, Scr.it_add]
theorem it_mul_id (x : BitVec 16) : Scr.it (8 * 65535) x = x := by rw [Nat.mul_comm]; exact Scr.it_mul 65535 8 (Scr.it_round x)
theorem xs_round (seed : Int) : xs seed 65535 = xs seed 0 := by unfold xs; rw [it_mul_id]; rfl
theorem xs_ne (seed : Int) (m : Nat) (h0 : 0 < m) (h1 : m ≤ 8191) : xs seed m ≠ xs seed 0 := fun e =>
  Scr.not_back (m := 8 * m) (by omega) (by omega) (ini_ne seed) (nv_inj e)
theorem skip_xs (seed : Int) (n : Int) (h0 : 0 ≤ n) (h1 : n ≤ 1048576) (w : World) :
    Calls Try.prog 8 #[.int .i64 seed, .int .i64 n] w fun e w' => e = .returned (.int .i64 (xs seed n.toNat)) ∧ Below w.heap.size w w' := by
  obtain ⟨m, rfl⟩ : ∃ m : Nat, n = m := ⟨n.toNat, by omega⟩
  exact skip_nat seed m (by omega) w
theorem round_walk (seed a b : Int) (w : World) :
    Calls Try.prog 3 #[.int .i64 seed, .int .i64 a, .int .i64 b] w fun e w' => e = .returned (.bool true) ∧ Below w.heap.size w w' := by
  obtain ⟨m, hm, ea⟩ := and8191 a
  obtain ⟨n, hn, eb⟩ := and8191 b
  obtain ⟨A, HmA, hA0, hA1⟩ : ∃ A : Int, Hid (A = (m : Int)) ∧ 0 ≤ A ∧ A ≤ 8191 := ⟨m, rfl, by omega, by omega⟩
  obtain ⟨B, HnB, hB0, hB1⟩ : ∃ A : Int, Hid (A = (n : Int)) ∧ 0 ≤ A ∧ A ≤ 8191 := ⟨n, rfl, by omega, by omega⟩
  have tA : A.toNat = m := by have := HmA.out; omega
  have tB : B.toNat = n := by have := HnB.out; omega
  have tAB : (A + B).toNat = m + n := by have := HnB.out; have := HmA.out; omega
  have TA := Lib.hid tA
  have TB := Lib.hid tB
  have TAB := Lib.hid tAB
  rw [← HmA.out] at ea
  rw [← HnB.out] at eb
  clear tA tB tAB
  obtain ⟨X, hX0, hX1, eX⟩ : ∃ X, 0 < X ∧ X < 65536 ∧ Hid (xs seed m = X) := ⟨_, (xs_bd seed m).1, (xs_bd seed m).2, rfl⟩
  obtain ⟨Y, eY⟩ : ∃ Y, Hid (xs seed (m + n) = Y) := ⟨_, rfl⟩
  obtain ⟨Z, eZ⟩ : ∃ Z, Hid (xs seed 0 = Z) := ⟨_, rfl⟩
  have eY2 : Hid (xs X n = Y) := by unfold Hid; rw [← eX.out, xs_xs]; exact eY
  have eZ2 : Hid (xs seed 65535 = Z) := by unfold Hid; rw [xs_round]; exact eZ
  have HA := Lib.hid ea
  have HB := Lib.hid eb
  clear ea eb
  rcases (show m ≤ 0 ∨ 0 < m by omega) with h0 | h0
  · have hm0 : A ≤ 0 := by have := HmA.out; omega
    go_enter Try.func3, Try.ntmps3
    go_wp2_with fail
    refine (first_any _).mono ?_
    rintro e w1 ⟨rfl, hb1⟩
    go_wp2_with fail
    rw [HA.out, HB.out]
    refine (skip_xs _ _ (by omega) (by omega) _).mono ?_
    rintro e w2 ⟨rfl, hb2⟩
    rw [TA.out, eX.out]
    go_wp2_with fail
    refine (skip_xs _ _ (by omega) (by omega) _).mono ?_
    rintro e w3 ⟨rfl, hb3⟩
    rw [TB.out, eY2.out]
    go_wp2_with fail
    refine (skip_xs _ _ (by omega) (by omega) _).mono ?_
    rintro e w4 ⟨rfl, hb4⟩
    rw [TAB.out, eY.out]
    go_wp2_with fail
    refine (skip_xs _ _ (by omega) (by omega) _).mono ?_
    rintro e w5 ⟨rfl, hb5⟩
    rw [show (65535 : Int).toNat = 65535 from rfl, eZ2.out]
    go_wp2_with fail
    refine (skip_xs _ _ (by omega) (by omega) _).mono ?_
    rintro e w6 ⟨rfl, hb6⟩
    rw [show (0 : Int).toNat = 0 from rfl, eZ.out]
    have hb := ((((hb1.trans (hb2.mono hb1.size)).trans (hb3.mono (Nat.le_trans hb1.size hb2.size))).trans (hb4.mono (Nat.le_trans hb1.size (Nat.le_trans hb2.size hb3.size)))).trans
      (hb5.mono (Nat.le_trans hb1.size (Nat.le_trans hb2.size (Nat.le_trans hb3.size hb4.size))))).trans (hb6.mono (Nat.le_trans hb1.size (Nat.le_trans hb2.size (Nat.le_trans hb3.size (Nat.le_trans hb4.size hb5.size)))))
    have hs := hb6.size
    clear hb1 hb2 hb3 hb4 hb5 hb6
    go_wp2
    go_ret
    exact ⟨rfl, hb⟩
  · have hne : (X != Z) = true := by simp; intro e; exact xs_ne seed m h0 hm (by rw [eX.out, eZ.out, e])
    have h01 : 1 ≤ A := by have := HmA.out; omega
    clear h0
    go_enter Try.func3, Try.ntmps3
    go_wp2_with fail
    refine (first_any _).mono ?_
    rintro e w1 ⟨rfl, hb1⟩
    go_wp2_with fail
    rw [HA.out, HB.out]
    refine (skip_xs _ _ (by omega) (by omega) _).mono ?_
    rintro e w2 ⟨rfl, hb2⟩
    rw [TA.out, eX.out]
    go_wp2_with fail
    refine (skip_xs _ _ (by omega) (by omega) _).mono ?_
    rintro e w3 ⟨rfl, hb3⟩
    rw [TB.out, eY2.out]
    go_wp2_with fail
    refine (skip_xs _ _ (by omega) (by omega) _).mono ?_
    rintro e w4 ⟨rfl, hb4⟩
    rw [TAB.out, eY.out]
    go_wp2_with fail
    refine (skip_xs _ _ (by omega) (by omega) _).mono ?_
    rintro e w5 ⟨rfl, hb5⟩
    rw [show (65535 : Int).toNat = 65535 from rfl, eZ2.out]
    go_wp2_with fail
    refine (skip_xs _ _ (by omega) (by omega) _).mono ?_
    rintro e w6 ⟨rfl, hb6⟩
    rw [show (0 : Int).toNat = 0 from rfl, eZ.out]
    have hb := ((((hb1.trans (hb2.mono hb1.size)).trans (hb3.mono (Nat.le_trans hb1.size hb2.size))).trans (hb4.mono (Nat.le_trans hb1.size (Nat.le_trans hb2.size hb3.size)))).trans
      (hb5.mono (Nat.le_trans hb1.size (Nat.le_trans hb2.size (Nat.le_trans hb3.size hb4.size))))).trans (hb6.mono (Nat.le_trans hb1.size (Nat.le_trans hb2.size (Nat.le_trans hb3.size (Nat.le_trans hb4.size hb5.size)))))
    have hs := hb6.size
    clear hb1 hb2 hb3 hb4 hb5 hb6
    go_wp2_with fail
    refine (skip_xs _ _ (by omega) (by omega) _).mono ?_
    rintro e w7 ⟨rfl, hb7⟩
    rw [show (0 : Int).toNat = 0 from rfl, eZ.out]
    go_wp2
    go_ret
    exact ⟨rfl, hb.trans (hb7.mono hb.size)⟩
end Go.Proofs.Ytbdlilgpalfnfaa
