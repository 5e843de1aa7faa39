/- What far and the matrix compute: so many steps of the register; no condition but that the number of bits is not below 0 and at most 2^30. -/
import Derived.Test.YtmfkfheakahckaaLow
import Derived.Laws.Tables
import Derived.Laws.Rows
set_option linter.unusedVariables false
namespace Go.Proofs.Ytmfkfheakahckaa
open Go.RowKit

/-- block b is an array of 32 words -/
def Ar (w : World) (b : Nat) (L : List (BitVec 32)) : Prop := L.length = 32 ∧ w.heap[b]? = some (.cells (L.map fun x => Value.int .u32 (nv x)).toArray 47 (0, 0))
theorem Ar.cell {w : World} {b : Nat} {L : List (BitVec 32)} (h : Ar w b L) (i : Nat) (hi : i < 32) : w.cell? ⟨b, i, none⟩ = some (.int .u32 (nv (L[i]?.getD 0#32))) := by
  simp only [World.cell?, h.2]
  have : i < L.length := by rw [h.1]; exact hi
  simp [this]
theorem Ar.free {w : World} {b : Nat} {L : List (BitVec 32)} (h : Ar w b L) (i : Nat) : w.frozen? ⟨b, i, none⟩ = false := by simp [World.frozen?, h.2]
theorem Ar.lt {w : World} {b : Nat} {L : List (BitVec 32)} (h : Ar w b L) : b < w.heap.size := lt_of_block h.2
theorem Ar.kept {w w' : World} {b : Nat} {L : List (BitVec 32)} {row : Option Nat} (h : Ar w b L) (g : w.grownBy w' row) (hne : some b ≠ row) : Ar w' b L := ⟨h.1, (g.block b h.lt hne).trans h.2⟩
theorem Ar.set {w : World} {b : Nat} {L : List (BitVec 32)} (h : Ar w b L) (i : Nat) (y : BitVec 32) : Ar (w.setCell ⟨b, i, none⟩ (.int .u32 (nv y))) b (L.set i y) := by
  refine ⟨by simpa using h.1, ?_⟩
  rw [heap_setCell_same w b i _ 47 _ h.2]
  simp
/-- the words of which x has the bit, of the first k, xored -/
def tm (L : List (BitVec 32)) (x : BitVec 32) : Nat → BitVec 32
  | 0 => 0#32
  | k + 1 => if x.getLsbD k then tm L x k ^^^ (L[k]?.getD 0#32) else tm L x k
theorem bit_spell (x : BitVec 32) (k : Nat) : bits .and .u32 (nv x / 2 ^ k) 1 = if x.getLsbD k then 1 else 0 := by
  have h1 : (1 : Int) = nv (1#32) := rfl
  rw [shr_nv x k (2 ^ k) rfl, h1, and32]
  have e : x >>> k &&& 1#32 = if x.getLsbD k then 1#32 else 0#32 := by
    apply BitVec.eq_of_getLsbD_eq
    intro i hi
    rw [BitVec.getLsbD_and, BitVec.getLsbD_ushiftRight]
    by_cases h0 : i = 0
    · subst h0; rw [Nat.add_zero]; cases x.getLsbD k <;> simp
    · cases x.getLsbD k <;> simp [h0]
  rw [e]
  cases x.getLsbD k <;> rfl
theorem times_any (b : Nat) (L : List (BitVec 32)) (x : BitVec 32) (w : World) (h : Ar w b L) :
    Calls Try.prog 20 #[.pointer (some ⟨b, 0, none⟩), .int .u32 (nv x)] w fun e w' => e = .returned (.int .u32 (nv (tm L x 32))) ∧ w = w' := by
  obtain ⟨X, HX, hx0, hx1⟩ : ∃ X : Int, Hid (X = nv x) ∧ 0 ≤ X ∧ X < 4294967296 := ⟨_, rfl, nv_nonneg x, nv_lt32 x⟩
  rw [← HX.out]
  go_enter Try.func20, Try.ntmps20
  go_wp2
  go_loopg [5, 7] 32 (fun gk s5 s7 wr => wr = w ∧ ∃ k : Nat, k + gk = 32 ∧ s5 = .int .u32 (nv (tm L x k)) ∧ s7 = .int .i64 k)
  case atStart => exact ⟨rfl, 0, rfl, rfl, rfl⟩
  case round =>
    obtain ⟨hw, k, hk, rfl, rfl⟩ := hrel
    subst hw
    by_cases hlt : k < 32
    · have hc := h.cell k hlt
      have hbit := bit_spell x k
      rw [← HX.out] at hbit
      cases hb : x.getLsbD k with
      | true =>
        rw [hb, if_pos rfl] at hbit
        have HB := Lib.hid hb
        clear hb
        go_wp2
        go_roundg (gk - 1)
        case measure => omega
        case rel => exact ⟨rfl, k + 1, by omega, by rw [xor32, tm, HB.out, if_pos rfl], by go_num⟩
      | false =>
        rw [hb, if_neg (by decide)] at hbit
        have HB := Lib.hid hb
        clear hb
        go_wp2
        go_roundg (gk - 1)
        case measure => omega
        case rel => exact ⟨rfl, k + 1, by omega, by rw [tm, HB.out, if_neg (by decide)], by go_num⟩
    · obtain rfl : k = 32 := by omega
      go_wp2
      go_ret
      exact ⟨rfl, rfl⟩
theorem tm_bit (x : BitVec 32) (k : Nat) (hk : k ≤ 32) (j : Nat) : (tm ((List.range 32).map fun i => 1#32 <<< i) x k).getLsbD j = (decide (j < k) && x.getLsbD j) := by
  induction k with
  | zero => simp [tm]
  | succ k ih =>
    have hg : (((List.range 32).map fun i => 1#32 <<< i)[k]?.getD 0#32) = 1#32 <<< k := by simp [show k < 32 by omega]
    have hone : (1#32 <<< k).getLsbD j = decide (j = k) := by
      rw [← BitVec.twoPow_eq, BitVec.getLsbD_twoPow]
      by_cases h : k = j
      · subst h; simp; omega
      · simp [h, Ne.symm h]
    unfold tm
    split
    · rename_i hx
      rw [hg, BitVec.getLsbD_xor, ih (by omega), hone]
      by_cases h1 : j = k
      · subst h1; simp [hx]
      · by_cases h2 : j < k
        · simp [h1, h2, Nat.lt_succ_of_lt h2]
        · simp [h1, h2, show ¬ j < k + 1 by omega]
    · rename_i hx
      rw [ih (by omega)]
      by_cases h1 : j = k
      · subst h1; simp at hx; simp [hx]
      · by_cases h2 : j < k
        · simp [h2, Nat.lt_succ_of_lt h2]
        · simp [h2, show ¬ j < k + 1 by omega]
theorem tm_id (x : BitVec 32) : tm ((List.range 32).map fun i => 1#32 <<< i) x 32 = x := by
  apply BitVec.eq_of_getLsbD_eq
  intro i hi
  rw [tm_bit x 32 (by omega)]
  simp [hi]
/-- the columns of so many steps -/
def col (p : Nat) : List (BitVec 32) := (List.range 32).map fun i => Crc.it p (1#32 <<< i)
theorem col_length (p : Nat) : (col p).length = 32 := by simp [col]
theorem col_get (p k : Nat) (hk : k < 32) : (col p)[k]?.getD 0#32 = Crc.it p (1#32 <<< k) := by simp [col, hk]
theorem tm_it (p : Nat) (x : BitVec 32) (k : Nat) (hk : k ≤ 32) : tm (col p) x k = Crc.it p (tm ((List.range 32).map fun i => 1#32 <<< i) x k) := by
  induction k with
  | zero => simp [tm, Crc.it_zero]
  | succ k ih =>
    have hg : (((List.range 32).map fun i => 1#32 <<< i)[k]?.getD 0#32) = 1#32 <<< k := by simp [show k < 32 by omega]
    simp only [tm, ih (by omega), col_get p k (by omega), hg]
    split
    · rw [Crc.it_xor]
    · rfl
theorem tm_col (p : Nat) (x : BitVec 32) : tm (col p) x 32 = Crc.it p x := by rw [tm_it p x 32 (by omega), tm_id]
theorem col_twice (p k : Nat) (hk : k < 32) : tm (col p) ((col p)[k]?.getD 0#32) 32 = Crc.it (p + p) (1#32 <<< k) := by
  rw [tm_col, col_get p k hk, Crc.it_add]
/-- the first k are the columns -/
def Upto (p k : Nat) (L : List (BitVec 32)) : Prop := L.length = 32 ∧ ∀ j, j < k → L[j]? = some (Crc.it p (1#32 <<< j))
theorem Upto.all {p : Nat} {L : List (BitVec 32)} (h : Upto p 32 L) : L = col p := by
  apply List.ext_getElem?
  intro i
  by_cases hi : i < 32
  · rw [h.2 i hi]; simp [col, hi]
  · rw [List.getElem?_eq_none (by rw [h.1]; omega), List.getElem?_eq_none (by rw [col_length]; omega)]
theorem Upto.step {p k : Nat} {L : List (BitVec 32)} (h : Upto p k L) (hk : k < 32) : Upto p (k + 1) (L.set k (Crc.it p (1#32 <<< k))) := by
  refine ⟨by simpa using h.1, fun j hj => ?_⟩
  rw [List.getElem?_set]
  by_cases e : k = j
  · subst e; rw [if_pos rfl, if_pos (by rw [h.1]; exact hk)]
  · rw [if_neg e]; exact h.2 j (by omega)
end Go.Proofs.Ytmfkfheakahckaa
