/- The walk of ScrambleApart: it returns true and changes nothing that was there, for any two numbers; no condition. -/
import Derived.Test.YtbdlilgpalfnfaaRound
import Derived.Test.YtbdlilgpalfnfaaMix
import Derived.Test.YtbdlilgpalfnfaaSame
import Derived.Deep.QuietTactic
import Derived.BigQuiet
import Derived.Deep.RegionWith
import Derived.Deep.DeepCutAuto
set_option linter.unusedVariables false
namespace Go.Proofs.Ytbdlilgpalfnfaa
open Go.RowKit

theorem same_n (a a' : Option Addr) (cap cap' n m : Nat) (l r : List (BitVec 8)) (w : World) (hn : n = l.length) (hm : m = r.length) (hl : Vw w a cap l) (hr : Vw w a' cap' r) :
    Calls Try.prog 11 #[.slice a n cap, .slice a' m cap'] w fun e w' => e = .returned (.bool (l == r)) ∧ w' = w := by
  subst hn hm
  exact (same_any a a' cap cap' l r w hl hr).mono fun _ _ h => ⟨h.1, h.2.symm⟩
theorem Vw.drewN {w : World} {a : Option Addr} {cap : Nat} {l : List (BitVec 8)} (h : Vw w a cap l) (n : Nat) : Vw (w.drewN n) a cap l := h
theorem Vw.take {w : World} {a : Option Addr} {cap : Nat} {l : List (BitVec 8)} (h : Vw w a cap l) (k : Nat) : Vw w a cap (l.take k) := by
  rcases h with ⟨h1, h2, rfl⟩ | ⟨x, h1, h2, h3, h4⟩
  · exact .inl ⟨h1, h2, by simp⟩
  · refine .inr ⟨x, h1, by rw [List.length_take]; omega, h3, fun i c hc => h4 i c ?_⟩
    rw [List.getElem?_take] at hc
    split at hc
    · exact hc
    · cases hc
/-- twenty noughts -/
def zs20 : List (BitVec 8) := List.replicate 20 0#8
theorem cells_zs20 : (madeCells (Value.int .u8 0).cells (20 * 1)).toList = cells zs20 := by rw [show (Value.int IntKind.u8 0).cells = #[Value.int .u8 0] from rfl, toList_madeCells_one]; rfl
theorem mix_z (x : BitVec 16) : mx x zs20 = lo x :: lo (Scr.it 8 x) :: mx (Scr.it 16 x) (List.replicate 18 0#8) := by
  show mx x (0#8 :: 0#8 :: List.replicate 18 0#8) = _
  simp only [mx, BitVec.zero_xor]
  rw [← Scr.it_add]
theorem two_bytes (x : BitVec 16) : bits .or .i64 (nv (lo x)) (nv (lo (Scr.it 8 x)) * 256) = nv x := by
  have h1 : (lo (Scr.it 8 x)).toNat = x.toNat / 256 := by
    apply Nat.eq_of_testBit_eq
    intro i
    rw [show (256 : Nat) = 2 ^ 8 from rfl, Nat.testBit_div_two_pow]
    have e : (lo (Scr.it 8 x)).toNat.testBit i = (decide (i < 8) && (Scr.it 8 x).getLsbD i) := by unfold lo; rw [← BitVec.getLsbD, BitVec.getLsbD_setWidth]
    rw [e]
    by_cases hi : i < 8
    · rw [Scr.it_bit 8 i (by omega)]; simp [hi, BitVec.getLsbD]
    · have : x.toNat.testBit (i + 8) = false := Nat.testBit_lt_two_pow (Nat.lt_of_lt_of_le x.isLt (Nat.pow_le_pow_right (by omega) (by omega)))
      simp [hi, this]
  have h2 : (lo x).toNat = x.toNat % 256 := by unfold lo; rw [BitVec.toNat_setWidth]
  have hx := x.isLt
  unfold nv
  rw [h1, h2, show ((x.toNat / 256 : Nat) : Int) * 256 = ((x.toNat / 256 * 256 : Nat) : Int) by omega, or64_nat _ _ (by omega) (by omega)]
  have := or_add (x.toNat % 256) (x.toNat / 256) 8 (Nat.mod_lt _ (by decide))
  rw [show (2 : Nat) ^ 8 = 256 from rfl] at this
  rw [this]
  congr 1
  omega
theorem apart_eq {x y : BitVec 16} : ((mx x zs20).take 2 == (mx y zs20).take 2) = (nv x == nv y) ∧ (mx x zs20 == mx y zs20) = (nv x == nv y) := by
  by_cases h : x = y
  · subst h; simp
  · have hn : (nv x == nv y) = false := beq_eq_false_iff_ne.2 fun e => h (nv_inj e)
    have key : (mx x zs20).take 2 ≠ (mx y zs20).take 2 := by
      rw [mix_z, mix_z]
      intro e
      simp only [List.take_succ_cons, List.take_zero, List.cons.injEq, and_true] at e
      apply h; apply nv_inj
      rw [← two_bytes x, ← two_bytes y, e.1, e.2]
    rw [hn]
    exact ⟨beq_eq_false_iff_ne.2 key, beq_eq_false_iff_ne.2 fun e => key (by rw [e])⟩
theorem and65535 (a : Int) : ∃ A : Int, 0 ≤ A ∧ A ≤ 65535 ∧ bits .and .i64 a 65535 = A ∧ A = nv (BitVec.ofInt 16 a) :=
  ⟨a % 65536, by omega, by omega, by have := and_pow_i64 a 16 (by omega); rw [show (65535 : Int) = ((2 ^ 16 - 1 : Nat) : Int) from rfl, this]; rfl, by unfold nv; rw [BitVec.toNat_ofInt]; omega⟩
theorem ini_and (a A : Int) (h : A = nv (BitVec.ofInt 16 a)) : nv (ini a) = if A = 0 then 44257 else A := by
  subst h
  unfold ini
  by_cases h : BitVec.ofInt 16 a = 0#16
  · rw [if_pos h, h]; rfl
  · have h2 : ¬ nv (BitVec.ofInt 16 a) = 0 := fun e => h (nv_inj (y := 0#16) e)
    rw [if_neg h, if_neg h2]
theorem own_shape {w : World} {B n : Nat} {v : Value} {l : List (BitVec 8)} (h : w.ownsRow B 5 1 v n (cells l)) (h0 : 0 < n) :
    ∃ g cap, v = .slice (some ⟨g, 0, none⟩) n cap ∧ B ≤ g ∧ n ≤ cap ∧ g < w.heap.size := by
  rcases h.2 with ⟨_, h1⟩ | ⟨g, cap, cur, h1, h2, h3, h4, _⟩
  · omega
  · exact ⟨g, cap, h1, h2, h4, lt_of_block h3⟩
theorem mix_n (seed : Int) (a : Option Addr) (cap n : Nat) (l : List (BitVec 8)) (w : World) (hn : n = l.length) (hv : Vw w a cap l) (hl : l.length ≤ 100000) :
    Calls Try.prog 10 #[.int .i64 seed, .slice a n cap] w (MixedNew seed l w) := by subst hn; exact mix_any seed a cap l w hv hl
theorem Vw.cellAt {w : World} {g cap : Nat} {l : List (BitVec 8)} (h : Vw w (some ⟨g, 0, none⟩) cap l) (i : Nat) (c : BitVec 8) (hc : l[i]? = some c) : w.cell? ⟨g, i, none⟩ = some (.int .u8 (nv c)) := by
  rcases h with ⟨h, _⟩ | ⟨x, hx, _, _, h⟩
  · cases h
  · cases hx; have := h i c hc; rwa [add_none, Nat.zero_add] at this
theorem apart_walk (a b : Int) (w : World) :
    Calls Try.prog 5 #[.int .i64 a, .int .i64 b] w fun e w' => e = .returned (.bool true) ∧ Below w.heap.size w w' := by
  obtain ⟨i0, hi, hz0, hz1, hz2⟩ := info_parts Try.info5
  obtain ⟨A, hA0, hA1, eA, eA2⟩ := and65535 a
  obtain ⟨B, hB0, hB1, eB, eB2⟩ := and65535 b
  have HA := Lib.hid eA
  have HB := Lib.hid eB
  have HA2 := Lib.hid (ini_and a A eA2)
  have HB2 := Lib.hid (ini_and b B eB2)
  clear eA eB eA2 eB2
  go_enter Try.func5, Try.ntmps5
  go_wp2_with fail
  refine (first_any _).mono ?_
  rintro e w1 ⟨rfl, hb1⟩
  go_wp2_with (at_make; refine wpList_make_full _ rfl _ _ 25 rfl w1.heap.size 5 i0 (.int .u8 0) 1 Try.underlying25 hi hz0 hz1 .i64 .i64 20 20 20 rfl rfl rfl rfl (by rw [hz2]; omega) (by unfold maxLen; omega) (Nat.le_refl _) ?_; intro w2 hown2 hg2)
  rw [cells_zs20] at hown2
  refine (mix_n a _ 20 20 zs20 w2 rfl (Vw.of_own hown2).2 (by decide)).mono ?_
  rintro e w3 ⟨vx, rfl, hx3, hb3⟩
  rw [show zs20.length = 20 from rfl] at hx3
  obtain ⟨gx, cx, rfl, hgx, hcx, hgx3⟩ := own_shape hx3 (by decide)
  clear hown2
  go_wp2_with (at_make; refine wpList_make_full _ rfl _ _ 25 rfl w3.heap.size 5 i0 (.int .u8 0) 1 Try.underlying25 hi hz0 hz1 .i64 .i64 20 20 20 rfl rfl rfl rfl (by rw [hz2]; omega) (by unfold maxLen; omega) (Nat.le_refl _) ?_; intro w4 hown4 hg4)
  rw [cells_zs20] at hown4
  refine (mix_n b _ 20 20 zs20 w4 rfl (Vw.of_own hown4).2 (by decide)).mono ?_
  rintro e w5 ⟨vy, rfl, hy5, hb5⟩
  rw [show zs20.length = 20 from rfl] at hy5
  obtain ⟨gy, cy, rfl, hgy, hcy, hgy5⟩ := own_shape hy5 (by decide)
  clear hown4
  have hbl : Below w.heap.size w w5 := by
    have b2 : Below w.heap.size w w2 := hb1.grown hg2 hb1.size (by simp)
    have b3 := b2.trans (hb3.mono b2.size)
    have b4 := b3.grown hg4 b3.size (by simp)
    exact b4.trans (hb5.mono b4.size)
  have VX := ((Vw.of_own hx3).2.grown hg4 (by simp)).below hb5 (Nat.le_refl _)
  have VY := (Vw.of_own hy5).2
  have c0 := VX.cellAt 0 (lo (ini a)) (by rw [mix_z]; rfl)
  have c1 := VX.cellAt 1 (lo (Scr.it 8 (ini a))) (by rw [mix_z]; rfl)
  have e2 := two_bytes (ini a)
  have aq := apart_eq (x := ini a) (y := ini b)
  have L1 : 20 = (mx (ini a) zs20).length := by rw [mx_length]; rfl
  have L2 : 20 = (mx (ini b) zs20).length := by rw [mx_length]; rfl
  have L3 : 2 = ((mx (ini a) zs20).take 2).length := by rw [List.length_take, ← L1]; rfl
  have L4 : 2 = ((mx (ini b) zs20).take 2).length := by rw [List.length_take, ← L2]; rfl
  have S1 : ∀ n, Calls Try.prog 11 #[.slice (some ⟨gx, 0, none⟩) 2 cx, .slice (some ⟨gy, 0, none⟩) 2 cy] (w5.drewN n) fun e w' => e = .returned (.bool (nv (ini a) == nv (ini b))) ∧ w' = w5.drewN n := fun n => by
    rw [← aq.1]; exact same_n _ _ _ _ _ _ _ _ (w5.drewN n) L3 L4 ((VX.take 2).drewN n) ((VY.take 2).drewN n)
  have S2 : ∀ n, Calls Try.prog 11 #[.slice (some ⟨gx, 0, none⟩) 20 cx, .slice (some ⟨gy, 0, none⟩) 20 cy] (w5.drewN n) fun e w' => e = .returned (.bool (nv (ini a) == nv (ini b))) ∧ w' = w5.drewN n := fun n => by
    rw [← aq.2]; exact same_n _ _ _ _ _ _ _ _ (w5.drewN n) L1 L2 (VX.drewN n) (VY.drewN n)
  obtain ⟨p0, ep0, hp0, hp0'⟩ : ∃ p0 : Int, nv (lo (ini a)) = p0 ∧ 0 ≤ p0 ∧ p0 < 256 := ⟨_, rfl, nv_nonneg _, nv_lt8 _⟩
  obtain ⟨p1, ep1, hp1, hp1'⟩ : ∃ p1 : Int, nv (lo (Scr.it 8 (ini a))) = p1 ∧ 0 ≤ p1 ∧ p1 < 256 := ⟨_, rfl, nv_nonneg _, nv_lt8 _⟩
  obtain ⟨S, eS⟩ : ∃ S : Int, nv (ini a) = S := ⟨_, rfl⟩
  obtain ⟨T, eT⟩ : ∃ T : Int, nv (ini b) = T := ⟨_, rfl⟩
  rw [ep0] at c0
  rw [ep1] at c1
  rw [ep0, ep1, eS] at e2
  rw [eS, eT] at S1 S2
  have HS : Hid (S = if A = 0 then 44257 else A) := by rw [← eS]; exact HA2.out
  have HT : Hid (T = if B = 0 then 44257 else B) := by rw [← eT]; exact HB2.out
  have E2 := Lib.hid e2
  have HS1 := Lib.hid S1
  have HS2 := Lib.hid S2
  clear ep0 ep1 eS eT VX VY aq L1 L2 L3 L4 e2 S1 S2 hx3 hy5 hg2 hg4 hb1 hb3 hb5 HA2 HB2 hi hz0 hz1 hz2
  go_upto_region 6 with fail
  rw [HA.out, HB.out]
  go_upto_if 22 with (fail)
  go_cut [8] (fun s8 wx => s8 = .int .i64 S ∧ wx = w5)
  case first =>
    by_cases h : A = 0
    · have h1 : A ≤ 0 := by omega
      have h2 : Hid (S = 44257) := by have := HS.out; rw [if_pos h] at this; exact this
      clear h
      go_wp2_with (fail)
      go_meet
      exact ⟨by rw [h2.out], rfl⟩
    · have h1 : 1 ≤ A := by omega
      have h2 : Hid (S = A) := by have := HS.out; rw [if_neg h] at this; exact this
      clear h
      go_wp2_with (fail)
      go_meet
      exact ⟨by rw [h2.out], rfl⟩
  case rest =>
    obtain ⟨rfl, hw⟩ := hcut
    subst hw
    go_upto_if 24 with (fail)
    go_cut [9] (fun s9 wx => s9 = .int .i64 T ∧ wx = wc)
    case first =>
      by_cases h : B = 0
      · have h1 : B ≤ 0 := by omega
        have h2 : Hid (T = 44257) := by have := HT.out; rw [if_pos h] at this; exact this
        clear h
        go_wp2_with (fail)
        go_meet
        exact ⟨by rw [h2.out], rfl⟩
      · have h1 : 1 ≤ B := by omega
        have h2 : Hid (T = B) := by have := HT.out; rw [if_neg h] at this; exact this
        clear h
        go_wp2_with (fail)
        go_meet
        exact ⟨by rw [h2.out], rfl⟩
    case rest =>
      clear HS HT hA0 hA1 hB0 hB1 HA HB
      obtain ⟨rfl, hw⟩ := hcut
      subst hw
      rcases (show (S == T) = true ∨ (S == T) = false by cases (S == T) <;> simp) with hd | hd
      · have T1 : Hid (∀ n, Calls Try.prog 11 #[.slice (some ⟨gx, 0, none⟩) 2 cx, .slice (some ⟨gy, 0, none⟩) 2 cy] (wc.drewN n) fun e w' => e = .returned (.bool true) ∧ w' = wc.drewN n) := by have := HS1.out; rw [hd] at this; exact this
        have T2 : Hid (∀ n, Calls Try.prog 11 #[.slice (some ⟨gx, 0, none⟩) 20 cx, .slice (some ⟨gy, 0, none⟩) 20 cy] (wc.drewN n) fun e w' => e = .returned (.bool true) ∧ w' = wc.drewN n) := by have := HS2.out; rw [hd] at this; exact this
        clear HS1 HS2
        have hor : (bits .or .i64 p0 (p1 * 256) == S) = true := beq_iff_eq.2 E2.out
        clear E2
        go_wp2_with (fail)
        go_quiet ((first | (go_at_call_of 11 (Value.slice (some ⟨gx, 0, none⟩) 2 cx); exact Calls.quiet_of_same (T1.out _)) | (go_at_call_of 11 (Value.slice (some ⟨gx, 0, none⟩) 20 cx); exact Calls.quiet_of_same (T2.out _))))
        go_wp2
        go_ret
        exact ⟨rfl, below_drewN hbl _⟩
      · have T1 : Hid (∀ n, Calls Try.prog 11 #[.slice (some ⟨gx, 0, none⟩) 2 cx, .slice (some ⟨gy, 0, none⟩) 2 cy] (wc.drewN n) fun e w' => e = .returned (.bool false) ∧ w' = wc.drewN n) := by have := HS1.out; rw [hd] at this; exact this
        have T2 : Hid (∀ n, Calls Try.prog 11 #[.slice (some ⟨gx, 0, none⟩) 20 cx, .slice (some ⟨gy, 0, none⟩) 20 cy] (wc.drewN n) fun e w' => e = .returned (.bool false) ∧ w' = wc.drewN n) := by have := HS2.out; rw [hd] at this; exact this
        clear HS1 HS2
        have hor : (bits .or .i64 p0 (p1 * 256) == S) = true := beq_iff_eq.2 E2.out
        clear E2
        go_wp2_with (fail)
        go_quiet ((first | (go_at_call_of 11 (Value.slice (some ⟨gx, 0, none⟩) 2 cx); exact Calls.quiet_of_same (T1.out _)) | (go_at_call_of 11 (Value.slice (some ⟨gx, 0, none⟩) 20 cx); exact Calls.quiet_of_same (T2.out _))))
        go_wp2
        go_ret
        exact ⟨rfl, below_drewN hbl _⟩
end Go.Proofs.Ytbdlilgpalfnfaa
