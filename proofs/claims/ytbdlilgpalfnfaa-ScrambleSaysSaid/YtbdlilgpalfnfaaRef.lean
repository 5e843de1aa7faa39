/- What the document's functions of chapter 11 compute: the same as the program's; at most 100000 bytes for Mix, at most 1048576 steps for Skip. -/
import Derived.Test.YtbdlilgpalfnfaaOpen
set_option linter.unusedVariables false
namespace Go.Proofs.Ytbdlilgpalfnfaa
open Go.RowKit

theorem or64 (x y : BitVec 16) : bits .or .i64 (nv x) (nv y) = nv (x ||| y) := by
  have := x.isLt; have := y.isLt
  unfold nv; rw [or64_nat _ _ (by omega) (by omega), BitVec.toNat_or]
theorem xor64_nat (a b : Nat) (ha : a < 9223372036854775808) (hb : b < 9223372036854775808) : bits .xor .i64 (a : Int) (b : Int) = ((a ^^^ b : Nat) : Int) := by
  have hx : a ^^^ b < 2 ^ 63 := Nat.xor_lt_two_pow (by omega) (by omega)
  have h1 : (BitVec.ofInt 64 (a : Int)).toNat = a := by rw [BitVec.ofInt_natCast, BitVec.toNat_ofNat]; exact Nat.mod_eq_of_lt (by omega)
  have h2 : (BitVec.ofInt 64 (b : Int)).toNat = b := by rw [BitVec.ofInt_natCast, BitVec.toNat_ofNat]; exact Nat.mod_eq_of_lt (by omega)
  show IntKind.i64.wrap ((BitVec.ofInt 64 (a : Int) ^^^ BitVec.ofInt 64 (b : Int)).toNat : Int) = _
  rw [BitVec.toNat_xor, h1, h2, IntKind.wrap_i64]
  omega
theorem xor64 (x y : BitVec 16) : bits .xor .i64 (nv x) (nv y) = nv (x ^^^ y) := by
  have := x.isLt; have := y.isLt
  unfold nv; rw [xor64_nat _ _ (by omega) (by omega), BitVec.toNat_xor]
theorem and64_1 (x : BitVec 16) : bits .and .i64 (nv x) 1 = bit0 x := by
  have h := and_pow_i64 (nv x) 1 (by omega)
  rw [show (1 : Int) = ((2 ^ 1 - 1 : Nat) : Int) from rfl, h]
  unfold bit0 nv
  rw [BitVec.getLsbD, Nat.testBit_zero]
  by_cases h : x.toNat % 2 = 1
  · simp [h]; omega
  · simp [h]; omega
theorem bit0_bd (x : BitVec 16) : 0 ≤ bit0 x ∧ bit0 x ≤ 1 := by unfold bit0; split <;> omega
theorem shl15 (x : BitVec 16) : bit0 x * 32768 = nv (x <<< 15) := by
  unfold nv bit0
  rw [BitVec.toNat_shiftLeft, Nat.shiftLeft_eq, BitVec.getLsbD, Nat.testBit_zero]
  by_cases h : x.toNat % 2 = 1
  · simp [h]; omega
  · simp [h]; omega
theorem next_spell (v : BitVec 16) :
    bits .or .i64 (nv v / 2) (wrap64 (bits .and .i64 (bits .xor .i64 (bits .xor .i64 (bits .xor .i64 (nv v) (nv v / 4)) (nv v / 8)) (nv v / 32)) 1 * 32768)) = nv (Scr.st v) := by
  rw [shr_nv v 1 2 rfl, shr_nv v 2 4 rfl, shr_nv v 3 8 rfl, shr_nv v 5 32 rfl, xor64, xor64, xor64, and64_1]
  have hb := bit0_bd (v ^^^ v >>> 2 ^^^ v >>> 3 ^^^ v >>> 5)
  have e : wrap64 (bit0 (v ^^^ v >>> 2 ^^^ v >>> 3 ^^^ v >>> 5) * 32768) = nv ((v ^^^ v >>> 2 ^^^ v >>> 3 ^^^ v >>> 5) <<< 15) := by
    rw [IntWalk.wrap64_in _ ⟨by omega, by omega⟩]; exact shl15 _
  rw [e, or64]
  rfl
theorem state_any (seed : Int) (w : World) : Calls Try.prog 14 #[.int .i64 seed] w fun e w' => e = .returned (.int .i64 (nv (ini seed))) ∧ w = w' := by
  obtain ⟨A, hA0, hA1, eA, eA2⟩ := and65535 seed
  have HA2 := Lib.hid (ini_and seed A eA2)
  clear eA2
  by_cases h : A = 0
  · have h1 : Hid (nv (ini seed) = 44257) := by have := HA2.out; rw [if_pos h] at this; exact this
    have h2 : A ≤ 0 := by omega
    clear h HA2
    go_enter Try.func14, Try.ntmps14
    go_wp2
    go_ret
    exact ⟨ret_int h1.out.symm, rfl⟩
  · have h1 : Hid (nv (ini seed) = A) := by have := HA2.out; rw [if_neg h] at this; exact this
    have h2 : 1 ≤ A := by omega
    clear h HA2
    go_enter Try.func14, Try.ntmps14
    go_wp2
    go_ret
    exact ⟨ret_int h1.out.symm, rfl⟩
def RNext (v : BitVec 16) (w : World) (e : Ending) (w' : World) : Prop := e = .returned (.tuple #[.int .i64 (nv (Scr.it 8 v)), .int .i64 (nv (lo v))]) ∧ w = w'
theorem rnext_any (v : BitVec 16) (w : World) : Calls Try.prog 15 #[.int .i64 (nv v)] w (RNext v w) := by
  go_enter Try.func15, Try.ntmps15
  go_wp2
  go_loopg [0, 4, 5] 8 (fun gk s0 s4 s5 wr => wr = w ∧ ∃ k : Nat, k + gk = 8 ∧ s0 = .int .i64 (nv (Scr.it k v)) ∧ s4 = .int .i64 (low v k) ∧ s5 = .int .i64 k)
  case atStart => exact ⟨rfl, 0, rfl, rfl, by simp [low], rfl⟩
  case round =>
    obtain ⟨hw, k, hk, rfl, rfl, rfl⟩ := hrel
    subst hw
    by_cases hlt : k < 8
    · have h0 := nv_nonneg (Scr.it k v)
      have h1 := nv_lt16 (Scr.it k v)
      have hsp := Lib.hid (next_spell (Scr.it k v))
      have hl := Lib.hid (low_succ v k hlt)
      obtain ⟨X, HX, hx0, hx1⟩ : ∃ X : Int, Hid (X = nv (Scr.it k v)) ∧ 0 ≤ X ∧ X < 65536 := ⟨_, rfl, h0, h1⟩
      rw [← HX.out]
      clear h0 h1
      go_wp2
      go_roundg (gk - 1)
      case measure => omega
      case rel =>
        refine ⟨rfl, k + 1, by omega, ?_, ?_, by go_num⟩
        · rw [Scr.it_succ, ← hsp.out, HX.out]
        · rw [← hl.out, HX.out, and64_1]
    · obtain rfl : k = 8 := by omega
      go_wp2
      go_ret2
      exact ⟨by rw [← low8]; rfl, rfl⟩
theorem cn_if (b : Int) : (if 1073741824 < (if (0 : Int) < b then b else 0) then (1073741824 : Int) else (if (0 : Int) < b then b else 0)) = cn b := by unfold cn; split <;> split <;> omega
theorem rseed_any (b p : Int) (w : World) : Calls Try.prog 20 #[.agg #[.int .i64 b, .int .i64 p]] w fun e w' => e = .returned (.int .i64 (sd b p)) ∧ Below w.heap.size w w' := by
  have hb := cn_bd b
  have hp := cn_bd p
  obtain ⟨x, HX, hx0, hx1⟩ : ∃ x : Int, Hid (cn b = x) ∧ 0 ≤ x ∧ x ≤ 1073741824 := ⟨_, rfl, hb.1, hb.2⟩
  obtain ⟨y, HY, hy0, hy1⟩ : ∃ y : Int, Hid (cn p = y) ∧ 0 ≤ y ∧ y ≤ 1073741824 := ⟨_, rfl, hp.1, hp.2⟩
  have e1 : Hid ((if 1073741824 < (if (0 : Int) < b then b else 0) then (1073741824 : Int) else (if (0 : Int) < b then b else 0)) = x) := by
    unfold Hid; rw [← HX.out]; exact cn_if b
  have e2 : Hid ((if 1073741824 < (if (0 : Int) < p then p else 0) then (1073741824 : Int) else (if (0 : Int) < p then p else 0)) = y) := by
    unfold Hid; rw [← HY.out]; exact cn_if p
  clear hb hp
  go_enter Try.func20, Try.ntmps20
  go_upto_region 2 with (fail)
  rw [e1.out]
  go_upto_region 3 with (fail)
  rw [e2.out]
  go_wp2
  all_goals
    go_ret
    exact ⟨ret_int (by unfold sd; rw [HX.out, HY.out]), (Below.refl _ _).alloc (Nat.le_refl _) _⟩
def rskip_rel (seed : Int) (m : Nat) (w : World) (gk : Nat) (s5 s6 : Value) (wr : World) : Prop :=
  wr = w ∧ ∃ k : Nat, k + gk = m ∧ s5 = .int .i64 (nv (Scr.it (8 * k) (ini seed))) ∧ s6 = .int .i64 k
theorem rskip_any (seed n : Int) (w : World) (hn : n ≤ 5000) : Calls Try.prog 18 #[.int .i64 seed, .int .i64 n] w fun e w' => e = .returned (.int .i64 (nv (Scr.it (8 * cl n) (ini seed)))) ∧ w' = w := by
  rcases (show n ≤ 0 ∨ 0 < n by omega) with h0 | h0
  · have H : Hid (cl n = 0) := by unfold Hid cl; omega
    go_enter Try.func18, Try.ntmps18
    go_wp2_with (go_at_call 14; refine (state_any _ _).mono ?_; rintro e w1 ⟨rfl, rfl⟩)
    refine wp_loop_rounds 1 ?_
    rw [rounds_succ]
    go_wp2
    go_ret
    exact ⟨ret_int (by rw [H.out]; rfl), rfl⟩
  · obtain ⟨m, hm⟩ : ∃ m : Nat, n = m := ⟨n.toNat, by omega⟩
    subst hm
    have H : Hid (cl m = m) := by unfold Hid cl; omega
    go_enter Try.func18, Try.ntmps18
    go_wp2_with (go_at_call 14; refine (state_any _ _).mono ?_; rintro e w1 ⟨rfl, rfl⟩)
    go_loopg [5, 6] m (fun gk s5 s6 wr => rskip_rel seed m w gk s5 s6 wr)
    case atStart => exact ⟨rfl, 0, by omega, rfl, rfl⟩
    case round =>
      obtain ⟨hw, k, hk, rfl, rfl⟩ := hrel
      subst hw
      by_cases hlt : k < m
      · go_wp2_with (go_at_call 15; refine (rnext_any _ _).mono ?_; rintro e w1 ⟨rfl, rfl⟩)
        go_roundg (gk - 1)
        case measure => omega
        case rel => exact ⟨rfl, k + 1, by omega, by rw [show 8 * (k + 1) = 8 * k + 8 by omega, Scr.it_add], by go_num⟩
      · go_wp2
        go_ret
        exact ⟨ret_int (by rw [H.out, show k = m by omega]), rfl⟩
/-- the document's Mix: the same bytes, in new memory -/
def rmix_rel (seed : Int) (l : List (BitVec 8)) (w : World) (gk : Nat) (s5 s6 s7 : Value) (wr : World) : Prop :=
  ∃ k : Nat, k + gk = l.length ∧ s5 = .int .i64 (nv (Scr.it (8 * k) (ini seed))) ∧ s7 = .int .i64 k ∧ wr.ownsRow w.heap.size 5 1 s6 k (cells (mx (ini seed) (l.take k))) ∧ Below w.heap.size w wr
theorem rmix_spell (c : BitVec 8) (x : BitVec 16) : bits BinOp.xor IntKind.u8 (nv c) (nv (lo x) % 256) = nv (c ^^^ lo x) := by
  rw [Int.emod_eq_of_lt (nv_nonneg _) (nv_lt8 _), xor8]
theorem mx_snoc (x : BitVec 16) (l : List (BitVec 8)) (k : Nat) (hk : k < l.length) :
    cells (mx x (l.take k)) ++ [.int .u8 (nv (l[k] ^^^ lo (Scr.it (8 * k) x)))] = cells (mx x (l.take (k + 1))) := by
  rw [List.take_succ_eq_append_getElem hk, mx_append, cells_append, List.length_take, Nat.min_eq_left (Nat.le_of_lt hk)]
  rfl
theorem rmix_some (seed : Int) (b off cap : Nat) (l : List (BitVec 8)) (w : World) (hv : Vw w (some ⟨b, off, none⟩) cap l) (hl : l.length ≤ 100000) :
    Calls Try.prog 17 #[.int .i64 seed, .slice (some ⟨b, off, none⟩) l.length cap] w (MixedNew seed l w) := by
  obtain ⟨i0, hi, hz0, hz1, hz2⟩ := info_parts Try.info5
  have V := Lib.hid hv
  clear hv
  go_enter Try.func17, Try.ntmps17
  go_wp2_with (first
    | (go_at_call 14; refine (state_any _ _).mono ?_; rintro e w1 ⟨rfl, rfl⟩)
    | (at_make; refine wpList_make_own _ rfl _ _ 25 rfl w.heap.size 5 i0 (.int .u8 0) 1 Try.underlying25 hi hz0 hz1 .i64 .i64 _ l.length rfl rfl rfl (by rw [hz2]; omega) (by unfold maxLen; omega) (Nat.le_refl _) ?_; intro w1 hown1 hg1))
  go_loopg [5, 6, 7] l.length (fun gk s5 s6 s7 wr => rmix_rel seed l w gk s5 s6 s7 wr)
  case atStart => exact ⟨0, by omega, rfl, rfl, hown1, (Below.refl _ _).grown hg1 (Nat.le_refl _) (by simp)⟩
  case round =>
    clear hown1 hg1
    obtain ⟨k, hk, rfl, rfl, ho, hb⟩ := hrel
    by_cases hlt : k < l.length
    · have hcell : wr.cell? ⟨b, off + k, none⟩ = some (.int .u8 (nv l[k])) := by
        obtain ⟨b', off', e, _, hc⟩ := (V.out.below hb (Nat.le_refl _)).at0 (by omega)
        cases e
        exact hc k _ (List.getElem?_eq_getElem hlt)
      have HO := Lib.hid ho
      have HB := Lib.hid hb
      have hwb : w.heap.size ≤ wr.heap.size := hb.size
      have hltI : (k : Int) < (l.length : Int) := by omega
      clear ho hb
      go_wp2_with (first
        | (go_at_call 15; refine (rnext_any _ _).mono ?_; rintro e w1 ⟨rfl, rfl⟩)
        | (at_builtin; go_loud (refine wpList_append_own _ rfl _ _ 25 rfl w.heap.size 5 i0 (.int .u8 0) 1 1 Try.underlying25 hi hz0 hz1 hz2 rfl (by decide) _ k _ rfl (HO.out.alloc _) ⟨wr.heap.size, 0, none⟩ 1 1 [_] rfl rfl (cell_one_new _ _ _) ?c2 ?c3 ?c4 ?c5 ?_)))
      case c2 => intro u hu; simp at hu; subst hu; rfl
      case c3 => unfold maxLen; omega
      case c4 => omega
      case c5 => simp; omega
      intro v' w2 ho2 hg2 _
      rw [rmix_spell, mx_snoc _ _ _ hlt] at ho2
      have HO2 := Lib.hid ho2
      have HB2 := Lib.hid ((HB.out.alloc hwb _).grown hg2 (by simp; omega) (fun j e => (HO.out.lt j e).1))
      clear ho2 hg2 hcell
      go_wp2
      go_roundg (gk - 1)
      case measure => omega
      case rel => exact ⟨k + 1, by omega, by rw [show 8 * (k + 1) = 8 * k + 8 by omega, Scr.it_add], by go_num, HO2.out, HB2.out⟩
    · obtain rfl : k = l.length := by omega
      rw [List.take_length] at ho
      go_wp2
      go_ret
      exact ⟨_, rfl, ho, hb⟩
theorem rmix_empty (seed : Int) (a : Option Addr) (cap : Nat) (w : World) :
    Calls Try.prog 17 #[.int .i64 seed, .slice a 0 cap] w (MixedNew seed [] w) := by
  obtain ⟨i0, hi, hz0, hz1, hz2⟩ := info_parts Try.info5
  go_enter Try.func17, Try.ntmps17
  go_wp2_with (first
    | (go_at_call 14; refine (state_any _ _).mono ?_; rintro e w1 ⟨rfl, rfl⟩)
    | (at_make; refine wpList_make_own _ rfl _ _ 25 rfl w.heap.size 5 i0 (.int .u8 0) 1 Try.underlying25 hi hz0 hz1 .i64 .i64 _ 0 rfl rfl rfl (by omega) (by unfold maxLen; omega) (Nat.le_refl _) ?_; intro w1 hown1 hg1))
  refine wp_loop_rounds 1 ?_
  rw [rounds_succ]
  go_wp2
  go_ret
  exact ⟨_, rfl, hown1, (Below.refl _ _).grown hg1 (Nat.le_refl _) (by simp)⟩
theorem rmix_any (seed : Int) (a : Option Addr) (cap : Nat) (l : List (BitVec 8)) (w : World) (hv : Vw w a cap l) (hl : l.length ≤ 100000) :
    Calls Try.prog 17 #[.int .i64 seed, .slice a l.length cap] w (MixedNew seed l w) := by
  by_cases h0 : 0 < l.length
  · obtain ⟨b, off, rfl, _⟩ := hv.at0 h0
    exact rmix_some seed b off cap l w hv hl
  · obtain rfl : l = [] := List.length_eq_zero_iff.1 (by omega)
    exact rmix_empty seed a cap w
end Go.Proofs.Ytbdlilgpalfnfaa
