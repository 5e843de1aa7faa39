/- Small laws between Go's integers and bit vectors, and what is known of worlds behind calls; no condition. -/
import Derived.Test.YtmfkfheakahckaaDoorMath
import Derived.WalkKit
import Derived.ProofKit
import Derived.WalkSpells
import Derived.WalkLawsBesides
import Derived.WalkSmall
import Derived.Lib.Hide
import Derived.Laws.BitsAllLaws
set_option linter.unusedVariables false
namespace Go.Proofs.YtmfkfheakahckaaDoor
open Go.RowKit

/-- the number that a word is -/
def nv {n : Nat} (x : BitVec n) : Int := (x.toNat : Int)
theorem nv_nonneg {n : Nat} (x : BitVec n) : 0 ≤ nv x := Int.natCast_nonneg _
theorem nv_lt {n : Nat} (x : BitVec n) : nv x < 2 ^ n := by unfold nv; have := x.isLt; exact_mod_cast this
theorem nv_lt8 (x : BitVec 8) : nv x < 256 := nv_lt x
theorem nv_lt32 (x : BitVec 32) : nv x < 4294967296 := nv_lt x
theorem nv_inj {n : Nat} {x y : BitVec n} (h : nv x = nv y) : x = y := BitVec.eq_of_toNat_eq (Int.ofNat_inj.1 h)
theorem ofInt_nv {n : Nat} (x : BitVec n) : BitVec.ofInt n (nv x) = x := by
  unfold nv; rw [BitVec.ofInt_natCast]; simp
theorem wrap8_nat (a : Nat) (h : a < 256) : IntKind.u8.wrap (a : Int) = (a : Int) := by rw [IntKind.wrap_u8']; omega
theorem wrap32_nat (a : Nat) (h : a < 4294967296) : IntKind.u32.wrap (a : Int) = (a : Int) := by rw [IntKind.wrap_u32']; omega
theorem wrap32_ofInt (n : Int) : IntKind.u32.wrap n = nv (BitVec.ofInt 32 n) := by
  rw [IntKind.wrap_u32']; unfold nv; rw [BitVec.toNat_ofInt]; omega
theorem xor8 (x y : BitVec 8) : bits .xor .u8 (nv x) (nv y) = nv (x ^^^ y) := by
  show IntKind.u8.wrap ((BitVec.ofInt 8 (nv x) ^^^ BitVec.ofInt 8 (nv y)).toNat : Int) = _
  rw [ofInt_nv, ofInt_nv]; exact wrap8_nat _ (x ^^^ y).isLt
theorem xor32 (x y : BitVec 32) : bits .xor .u32 (nv x) (nv y) = nv (x ^^^ y) := by
  show IntKind.u32.wrap ((BitVec.ofInt 32 (nv x) ^^^ BitVec.ofInt 32 (nv y)).toNat : Int) = _
  rw [ofInt_nv, ofInt_nv]; exact wrap32_nat _ (x ^^^ y).isLt
theorem and32 (x y : BitVec 32) : bits .and .u32 (nv x) (nv y) = nv (x &&& y) := by
  show IntKind.u32.wrap ((BitVec.ofInt 32 (nv x) &&& BitVec.ofInt 32 (nv y)).toNat : Int) = _
  rw [ofInt_nv, ofInt_nv]; exact wrap32_nat _ (x &&& y).isLt
theorem neg32 (x : BitVec 32) : IntKind.u32.wrap (-(nv x)) = nv (-x) := by
  rw [wrap32_ofInt]
  congr 1
  rw [BitVec.ofInt_neg, ofInt_nv]
theorem shr_nv {n : Nat} (x : BitVec n) (k : Nat) (m : Int) (hm : m = 2 ^ k) : nv x / m = nv (x >>> k) := by
  subst hm
  unfold nv
  rw [BitVec.toNat_ushiftRight, Nat.shiftRight_eq_div_pow, Int.natCast_ediv, Int.natCast_pow]; rfl
theorem wide_nv (c : BitVec 8) : nv (c.setWidth 32) = nv c := by
  unfold nv; rw [BitVec.toNat_setWidth, Nat.mod_eq_of_lt (Nat.lt_of_lt_of_le c.isLt (by decide))]
/-- the step, as the walk spells it -/
theorem zt_spell (x : BitVec 32) :
    bits .xor .u32 (nv x / 2) (bits .and .u32 3988292384 (IntKind.u32.wrap (-(bits .and .u32 (nv x) 1)))) = nv (Crc.zt x) := by
  have h1 : (1 : Int) = nv (1#32) := rfl
  have hp : (3988292384 : Int) = nv Crc.poly := rfl
  rw [shr_nv x 1 2 rfl, hp, h1, and32, neg32, and32, xor32]
  congr 1
  unfold Crc.zt
  congr 1
  have e : x &&& 1#32 = if x.getLsbD 0 then 1#32 else 0#32 := by
    apply BitVec.eq_of_getLsbD_eq
    intro i hi
    rw [BitVec.getLsbD_and]
    by_cases h0 : i = 0
    · subst h0; cases x.getLsbD 0 <;> simp
    · cases x.getLsbD 0 <;> simp [h0]
  rw [e]
  cases x.getLsbD 0 <;> decide
theorem gtrans {a b c : World} {row : Option Nat} (h : a.grownBy b row) (k : b.grownBy c row) : a.grownBy c row :=
  ⟨k.os.trans h.os, k.tape.trans h.tape, k.output.trans h.output, Nat.le_trans h.size k.size, fun i hi hne => (k.block i (Nat.lt_of_lt_of_le hi h.size) hne).trans (h.block i hi hne)⟩
theorem gset (w : World) (b o : Nat) (v : Value) : w.grownBy (w.setCell ⟨b, o, none⟩ v) (some b) :=
  ⟨rfl, rfl, rfl, by simp [World.setCell], fun _ _ hk => Below.heap_setCell _ _ _ _ (fun e => hk (by rw [e]))⟩
theorem grefl (w : World) (row : Option Nat) : w.grownBy w row := ⟨rfl, rfl, rfl, Nat.le_refl _, fun _ _ _ => rfl⟩
theorem Below.of_grown {B : Nat} {w w' : World} {b : Nat} (h : w.grownBy w' (some b)) (hB : B ≤ w.heap.size) (hb : B ≤ b) : Below B w w' :=
  (Below.refl B w).grown h hB (fun k hk => by cases hk; exact hb)

/-- block b is a sum whose register is x -/
def Sm (w : World) (b : Nat) (x : BitVec 32) : Prop := w.heap[b]? = some (.cells #[.int .u32 (nv x)] 65 (0, 0))
theorem Sm.cell {w : World} {b : Nat} {x : BitVec 32} (h : Sm w b x) : w.cell? ⟨b, 0, none⟩ = some (.int .u32 (nv x)) := cell_of_one h
theorem Sm.free {w : World} {b : Nat} {x : BitVec 32} (h : Sm w b x) : w.frozen? ⟨b, 0, none⟩ = false := free_of_one h
theorem Sm.lt {w : World} {b : Nat} {x : BitVec 32} (h : Sm w b x) : b < w.heap.size := lt_of_block h
theorem Sm.set {w : World} {b : Nat} {x : BitVec 32} (h : Sm w b x) (y : BitVec 32) : Sm (w.setCell ⟨b, 0, none⟩ (.int .u32 (nv y))) b y := one_setCell h
theorem Sm.kept {w w' : World} {b : Nat} {x : BitVec 32} {row : Option Nat} (h : Sm w b x) (g : w.grownBy w' row) (hne : some b ≠ row) : Sm w' b x := (g.block b h.lt hne).trans h
theorem Sm.new (w : World) (x : BitVec 32) : Sm (w.alloc (.cells #[.int .u32 (nv x)] 65)) w.heap.size x := heap_alloc_new w _
theorem gbut {a c : World} (h : a.grownBy c none) (row : Option Nat) : a.grownBy c row := ⟨h.os, h.tape, h.output, h.size, fun i hi _ => h.block i hi (by simp)⟩
theorem ret_int {k : IntKind} {a b : Int} (h : a = b) : Ending.returned (.int k a) = .returned (.int k b) := by rw [h]
theorem ret_bool {a b : Bool} (h : a = b) : Ending.returned (.bool a) = .returned (.bool b) := by rw [h]
theorem ne_of_lt' {a b : Nat} (h : a < b) : some a ≠ some b := by simp; omega
theorem gset_far {w wr : World} {b g : Nat} (h : w.grownBy wr (some b)) (hg : w.heap.size ≤ g) (o : Nat) (v : Value) : w.grownBy (wr.setCell ⟨g, o, none⟩ v) (some b) :=
  ⟨h.os, h.tape, h.output, by simpa [World.setCell] using h.size, fun k hk hne => (Below.heap_setCell _ _ _ k (by simp; omega)).trans (h.block k hk hne)⟩
theorem gdrew {w w' : World} {row : Option Nat} (h : w.drew.grownBy w' row) : w.grownBy w' row := ⟨h.os, h.tape, h.output, h.size, h.block⟩
theorem own_base {w : World} {B B' : Nat} {e : TypeId} {size : Nat} {v : Value} {n : Nat} {xs : List Value} (h : w.ownsRow B e size v n xs) (hB : B' ≤ B) : w.ownsRow B' e size v n xs := by
  obtain ⟨h1, h2⟩ := h
  refine ⟨h1, ?_⟩
  rcases h2 with h2 | ⟨g, cap, cur, hv, hb, r⟩
  · exact .inl h2
  · exact .inr ⟨g, cap, cur, hv, Nat.le_trans hB hb, r⟩
end Go.Proofs.YtmfkfheakahckaaDoor
