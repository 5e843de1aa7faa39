/- Small laws between Go's integers and bit vectors, and what is known of worlds behind calls; no condition. -/
import Derived.Test.YtbdlilgpalfnfaaMath
import Derived.WalkKit
import Derived.ProofKit
import Derived.WalkSpells
import Derived.WalkLawsBesides
import Derived.Lib.Hide
import Derived.Laws.BitsAllLaws
namespace Go.Proofs.Ytbdlilgpalfnfaa
open Go.RowKit

/-- the number that a word is -/
def nv {n : Nat} (x : BitVec n) : Int := (x.toNat : Int)
theorem nv_nonneg {n : Nat} (x : BitVec n) : 0 ≤ nv x := Int.natCast_nonneg _
theorem nv_lt {n : Nat} (x : BitVec n) : nv x < 2 ^ n := by unfold nv; have := x.isLt; exact_mod_cast this
theorem nv_lt8 (x : BitVec 8) : nv x < 256 := nv_lt x
theorem nv_lt16 (x : BitVec 16) : nv x < 65536 := nv_lt x
theorem nv_inj {n : Nat} {x y : BitVec n} (h : nv x = nv y) : x = y := BitVec.eq_of_toNat_eq (Int.ofNat_inj.1 h)
theorem ofInt_nv {n : Nat} (x : BitVec n) : BitVec.ofInt n (nv x) = x := by
  unfold nv; rw [BitVec.ofInt_natCast]; simp
theorem wrap16_nat (a : Nat) (h : a < 65536) : IntKind.u16.wrap (a : Int) = (a : Int) := by rw [IntKind.wrap_u16]; omega
theorem wrap8_nat (a : Nat) (h : a < 256) : IntKind.u8.wrap (a : Int) = (a : Int) := by rw [IntKind.wrap_u8']; omega
theorem xor16 (x y : BitVec 16) : bits .xor .u16 (nv x) (nv y) = nv (x ^^^ y) := by
  show IntKind.u16.wrap ((BitVec.ofInt 16 (nv x) ^^^ BitVec.ofInt 16 (nv y)).toNat : Int) = _
  rw [ofInt_nv, ofInt_nv]; exact wrap16_nat _ (x ^^^ y).isLt
theorem or16 (x y : BitVec 16) : bits .or .u16 (nv x) (nv y) = nv (x ||| y) := by
  show IntKind.u16.wrap ((BitVec.ofInt 16 (nv x) ||| BitVec.ofInt 16 (nv y)).toNat : Int) = _
  rw [ofInt_nv, ofInt_nv]; exact wrap16_nat _ (x ||| y).isLt
theorem and16 (x y : BitVec 16) : bits .and .u16 (nv x) (nv y) = nv (x &&& y) := by
  show IntKind.u16.wrap ((BitVec.ofInt 16 (nv x) &&& BitVec.ofInt 16 (nv y)).toNat : Int) = _
  rw [ofInt_nv, ofInt_nv]; exact wrap16_nat _ (x &&& y).isLt
theorem xor8 (x y : BitVec 8) : bits .xor .u8 (nv x) (nv y) = nv (x ^^^ y) := by
  show IntKind.u8.wrap ((BitVec.ofInt 8 (nv x) ^^^ BitVec.ofInt 8 (nv y)).toNat : Int) = _
  rw [ofInt_nv, ofInt_nv]; exact wrap8_nat _ (x ^^^ y).isLt
theorem shr_nv {n : Nat} (x : BitVec n) (k : Nat) (m : Int) (hm : m = 2 ^ k) : nv x / m = nv (x >>> k) := by
  subst hm
  unfold nv
  rw [BitVec.toNat_ushiftRight, Nat.shiftRight_eq_div_pow, Int.natCast_ediv, Int.natCast_pow]; rfl
theorem shl16 (x : BitVec 16) : IntKind.u16.wrap (nv x * 32768) = nv (x <<< 15) := by
  unfold nv
  rw [IntKind.wrap_u16, BitVec.toNat_shiftLeft, Nat.shiftLeft_eq]
  omega
theorem and1 (x : BitVec 16) : wrap64 (bits .and .u16 (nv x) 1) = if x.getLsbD 0 then 1 else 0 := by
  have h : (1 : Int) = nv (1#16) := rfl
  rw [h, and16]
  have hb := nv_lt16 (x &&& 1#16)
  have h0 := nv_nonneg (x &&& 1#16)
  have : wrap64 (nv (x &&& 1#16)) = nv (x &&& 1#16) := IntWalk.wrap64_in _ ⟨by omega, by omega⟩
  rw [this]
  have e : x &&& 1#16 = if x.getLsbD 0 then 1#16 else 0#16 := by
    apply BitVec.eq_of_getLsbD_eq
    intro i hi
    rw [BitVec.getLsbD_and]
    by_cases h0 : i = 0
    · subst h0; cases x.getLsbD 0 <;> simp
    · cases x.getLsbD 0 <;> simp [h0]
  rw [e]
  cases x.getLsbD 0 <;> rfl
/-- the stream's step, as the walk spells it -/
theorem st_spell (x : BitVec 16) :
    bits BinOp.or IntKind.u16 (nv x / 2) (IntKind.u16.wrap (bits BinOp.xor IntKind.u16 (bits BinOp.xor IntKind.u16 (bits BinOp.xor IntKind.u16 (nv x) (nv x / 4)) (nv x / 8)) (nv x / 32) * 32768)) = nv (Scr.st x) := by
  rw [shr_nv x 1 2 rfl, shr_nv x 2 4 rfl, shr_nv x 3 8 rfl, shr_nv x 5 32 rfl, xor16, xor16, xor16, shl16, or16]
  rfl
theorem gtrans {a b c : World} {row : Option Nat} (h : a.grownBy b row) (k : b.grownBy c row) : a.grownBy c row :=
  ⟨k.os.trans h.os, k.tape.trans h.tape, k.output.trans h.output, Nat.le_trans h.size k.size, fun i hi hne => (k.block i (Nat.lt_of_lt_of_le hi h.size) hne).trans (h.block i hi hne)⟩
theorem gset (w : World) (b o : Nat) (v : Value) : w.grownBy (w.setCell ⟨b, o, none⟩ v) (some b) :=
  ⟨rfl, rfl, rfl, by simp [World.setCell], fun _ _ hk => Below.heap_setCell _ _ _ _ (fun e => hk (by rw [e]))⟩
theorem grefl (w : World) (row : Option Nat) : w.grownBy w row := ⟨rfl, rfl, rfl, Nat.le_refl _, fun _ _ _ => rfl⟩
theorem Below.of_grown {B : Nat} {w w' : World} {b : Nat} (h : w.grownBy w' (some b)) (hB : B ≤ w.heap.size) (hb : B ≤ b) : Below B w w' :=
  (Below.refl B w).grown h hB (fun k hk => by cases hk; exact hb)

/-- block b is a stream whose bits are x -/
def Reg (w : World) (b : Nat) (x : BitVec 16) : Prop := w.heap[b]? = some (.cells #[.int .u16 (nv x)] 45 (0, 0))
theorem Reg.cell {w : World} {b : Nat} {x : BitVec 16} (h : Reg w b x) : w.cell? ⟨b, 0, none⟩ = some (.int .u16 (nv x)) := cell_of_one h
theorem Reg.free {w : World} {b : Nat} {x : BitVec 16} (h : Reg w b x) : w.frozen? ⟨b, 0, none⟩ = false := free_of_one h
theorem Reg.lt {w : World} {b : Nat} {x : BitVec 16} (h : Reg w b x) : b < w.heap.size := lt_of_block h
theorem Reg.set {w : World} {b : Nat} {x : BitVec 16} (h : Reg w b x) (y : BitVec 16) : Reg (w.setCell ⟨b, 0, none⟩ (.int .u16 (nv y))) b y := one_setCell h
theorem Reg.kept {w w' : World} {b : Nat} {x : BitVec 16} {row : Option Nat} (h : Reg w b x) (g : w.grownBy w' row) (hne : some b ≠ row) : Reg w' b x := (g.block b h.lt hne).trans h
theorem Reg.new (w : World) (x : BitVec 16) : Reg (w.alloc (.cells #[.int .u16 (nv x)] 45)) w.heap.size x := heap_alloc_new w _

/-- the lowest k bits -/
def low (x : BitVec 16) (k : Nat) : Int := ((x.toNat % 2 ^ k : Nat) : Int)
def bit0 (x : BitVec 16) : Int := if x.getLsbD 0 then 1 else 0
theorem low_lt (x : BitVec 16) (k : Nat) : 0 ≤ low x k ∧ low x k < 2 ^ k := by
  unfold low
  have : x.toNat % 2 ^ k < 2 ^ k := Nat.mod_lt _ (Nat.two_pow_pos k)
  exact ⟨Int.natCast_nonneg _, by exact_mod_cast this⟩
theorem bit0_it (x : BitVec 16) (k : Nat) (hk : k < 8) : bit0 (Scr.it k x) = ((x.toNat / 2 ^ k % 2 : Nat) : Int) := by
  unfold bit0
  rw [Scr.it_bit k 0 (by omega), Nat.zero_add, BitVec.getLsbD, Nat.testBit_eq_decide_div_mod_eq]
  have := Nat.mod_two_eq_zero_or_one (x.toNat / 2 ^ k)
  rcases this with h | h <;> simp [h]
theorem or64_nat (a b : Nat) (ha : a < 9223372036854775808) (hb : b < 9223372036854775808) : bits .or .i64 (a : Int) (b : Int) = ((a ||| b : Nat) : Int) := by
  have hx : a ||| b < 2 ^ 63 := Nat.or_lt_two_pow (by omega) (by omega)
  have h1 : (BitVec.ofInt 64 (a : Int)).toNat = a := by rw [BitVec.ofInt_natCast, BitVec.toNat_ofNat]; exact Nat.mod_eq_of_lt (by omega)
  have h2 : (BitVec.ofInt 64 (b : Int)).toNat = b := by rw [BitVec.ofInt_natCast, BitVec.toNat_ofNat]; exact Nat.mod_eq_of_lt (by omega)
  show IntKind.i64.wrap ((BitVec.ofInt 64 (a : Int) ||| BitVec.ofInt 64 (b : Int)).toNat : Int) = _
  rw [BitVec.toNat_or, h1, h2, IntKind.wrap_i64]
  omega
theorem or_add (a b k : Nat) (ha : a < 2 ^ k) : a ||| b * 2 ^ k = a + b * 2 ^ k := by
  rw [Nat.or_comm, Nat.mul_comm, ← Nat.two_pow_add_eq_or_of_lt ha b, Nat.add_comm]
/-- Next's round -/
theorem low_succ (x : BitVec 16) (k : Nat) (hk : k < 8) : bits .or .i64 (low x k) (wrap64 (bit0 (Scr.it k x) * 2 ^ k)) = low x (k + 1) := by
  rw [bit0_it x k hk]
  have hlt : x.toNat / 2 ^ k % 2 * 2 ^ k ≤ 128 := by
    have h1 : x.toNat / 2 ^ k % 2 ≤ 1 := by omega
    have h2 : 2 ^ k ≤ 2 ^ 7 := Nat.pow_le_pow_right (by omega) (by omega)
    calc x.toNat / 2 ^ k % 2 * 2 ^ k ≤ 1 * 2 ^ 7 := Nat.mul_le_mul h1 h2
      _ = 128 := rfl
  have e : (((x.toNat / 2 ^ k % 2 : Nat) : Int) * 2 ^ k) = ((x.toNat / 2 ^ k % 2 * 2 ^ k : Nat) : Int) := by simp
  rw [e]
  have hw : wrap64 ((x.toNat / 2 ^ k % 2 * 2 ^ k : Nat) : Int) = ((x.toNat / 2 ^ k % 2 * 2 ^ k : Nat) : Int) := IntWalk.wrap64_in _ ⟨by omega, by omega⟩
  rw [hw]
  unfold low
  have hl : x.toNat % 2 ^ k < 2 ^ k := Nat.mod_lt _ (Nat.two_pow_pos k)
  have hk2 : 2 ^ k ≤ 2 ^ 7 := Nat.pow_le_pow_right (by omega) (by omega)
  rw [or64_nat _ _ (by omega) (by omega), or_add _ _ _ hl]
  congr 1
  rw [Nat.pow_succ, Nat.mod_mul, Nat.mul_comm]
end Go.Proofs.Ytbdlilgpalfnfaa
