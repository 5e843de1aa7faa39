/- The walk of CrcThree: it returns true and changes nothing that was there; no condition. -/
import Derived.Test.YtmfkfheakahckaaPieces
import Derived.BigRegion
set_option linter.unusedVariables false
namespace Go.Proofs.Ytmfkfheakahckaa
open Go.RowKit

/-- the first k are the three lists' xor -/
def Zr (al bl cl : List (BitVec 8)) (n k : Nat) (L : List (BitVec 8)) : Prop := L.length = n ∧ ∀ j, j < k → L[j]? = some ((al[j]?.getD 0#8) ^^^ (bl[j]?.getD 0#8) ^^^ (cl[j]?.getD 0#8))
theorem Zr.step {al bl cl : List (BitVec 8)} {n k : Nat} {L : List (BitVec 8)} (h : Zr al bl cl n k L) (hk : k < n) : Zr al bl cl n (k + 1) (L.set k ((al[k]?.getD 0#8) ^^^ (bl[k]?.getD 0#8) ^^^ (cl[k]?.getD 0#8))) := by
  refine ⟨by simpa using h.1, fun j hj => ?_⟩
  rw [List.getElem?_set]
  by_cases e : k = j
  · subst e; rw [if_pos rfl, if_pos (by rw [h.1]; exact hk)]
  · rw [if_neg e]; exact h.2 j (by omega)
theorem Zr.all {al bl cl : List (BitVec 8)} {n : Nat} {L : List (BitVec 8)} (h : Zr al bl cl n n L) (ha : n ≤ al.length) (hb : n ≤ bl.length) (hc : n ≤ cl.length) :
    L = List.zipWith (· ^^^ ·) (List.zipWith (· ^^^ ·) (al.take n) (bl.take n)) (cl.take n) := by
  apply List.ext_getElem?
  intro i
  by_cases hi : i < n
  · rw [h.2 i hi]
    simp [List.getElem?_zipWith, hi, show i < al.length by omega, show i < bl.length by omega, show i < cl.length by omega]
  · rw [List.getElem?_eq_none (by rw [h.1]; omega), List.getElem?_eq_none (by simp; omega)]
theorem zero_cells (n : Nat) : (madeCells (Value.int .u8 0).cells (n * 1)).toList = cells (List.replicate n 0#8) := by
  rw [show (Value.int IntKind.u8 0).cells = #[Value.int .u8 0] from rfl, toList_madeCells_one, Nat.mul_one]
  unfold cells; rw [List.map_replicate]; rfl
def TRel (w : World) (gx cx : Nat) (al bl cl : List (BitVec 8)) (n gk : Nat) (s10 : Value) (wr : World) : Prop :=
  ∃ (k : Nat) (L : List (BitVec 8)), k + gk = n ∧ s10 = .int .i64 k ∧ Zr al bl cl n k L ∧ wr.ownsRow w.heap.size 5 1 (.slice (some ⟨gx, 0, none⟩) n cx) n (cells L) ∧ Bel w wr
theorem xor64_nat (a b : Nat) (ha : a < 9223372036854775808) (hb : b < 9223372036854775808) : bits .xor .i64 (a : Int) (b : Int) = ((a ^^^ b : Nat) : Int) := by
  have hx : a ^^^ b < 2 ^ 63 := Nat.xor_lt_two_pow (by omega) (by omega)
  have h1 : (BitVec.ofInt 64 (a : Int)).toNat = a := by rw [BitVec.ofInt_natCast, BitVec.toNat_ofNat]; exact Nat.mod_eq_of_lt (by omega)
  have h2 : (BitVec.ofInt 64 (b : Int)).toNat = b := by rw [BitVec.ofInt_natCast, BitVec.toNat_ofNat]; exact Nat.mod_eq_of_lt (by omega)
  show IntKind.i64.wrap ((BitVec.ofInt 64 (a : Int) ^^^ BitVec.ofInt 64 (b : Int)).toNat : Int) = _
  rw [BitVec.toNat_xor, h1, h2, IntKind.wrap_i64]
  omega
theorem xor64 (x y : BitVec 32) : bits .xor .i64 (nv x) (nv y) = nv (x ^^^ y) := by
  have := x.isLt; have := y.isLt
  unfold nv; rw [xor64_nat _ _ (by omega) (by omega), BitVec.toNat_xor]
theorem three_walk (a0 b0 c0 : Option Addr) (capa capb capc : Nat) (al bl cl : List (BitVec 8)) (w : World) (ha : Vw w a0 capa al) (hb : Vw w b0 capb bl) (hc : Vw w c0 capc cl) :
    Calls Try.prog 7 #[.slice a0 al.length capa, .slice b0 bl.length capb, .slice c0 cl.length capc] w fun e w' => e = .returned (.bool true) ∧ Below w.heap.size w w' := by
  obtain ⟨i0, hi, hz0, hz1, hz2⟩ := info_parts Try.info5
  have hla := ha.len
  have hlb := hb.len
  have hlc := hc.len
  unfold maxLen at hla hlb hlc
  have HA := Lib.hid ha
  have HB := Lib.hid hb
  have HC := Lib.hid hc
  clear ha hb hc
  go_enter Try.func7, Try.ntmps7
  go_wp2_with fail
  refine (first_any _).mono ?_
  rintro e w1 ⟨rfl, hb1⟩
  go_upto_region 3 with (fail)
  obtain ⟨N, eN, hNa, hNb, hNc, hN⟩ : ∃ N : Nat, (if (cl.length : Int) < (if bl.length < al.length then (bl.length : Int) else (al.length : Int)) then (cl.length : Int) else (if bl.length < al.length then (bl.length : Int) else (al.length : Int))) = (N : Int) ∧
      N ≤ al.length ∧ N ≤ bl.length ∧ N ≤ cl.length ∧ N ≤ 9223372036854775807 := by
    by_cases h1 : bl.length < al.length
    · simp only [if_pos h1]
      by_cases h2 : (cl.length : Int) < (bl.length : Int)
      · exact ⟨cl.length, by rw [if_pos h2], by omega, by omega, by omega, by omega⟩
      · exact ⟨bl.length, by rw [if_neg h2], by omega, by omega, by omega, by omega⟩
    · simp only [if_neg h1]
      by_cases h2 : (cl.length : Int) < (al.length : Int)
      · exact ⟨cl.length, by rw [if_pos h2], by omega, by omega, by omega, by omega⟩
      · exact ⟨al.length, by rw [if_neg h2], by omega, by omega, by omega, by omega⟩
  rw [eN]
  clear eN
  have D1 : Bel w w1 := hb1
  by_cases hbig : 2000 < N
  · have hbig' : (2000 : Int) < (N : Int) := by omega
    go_wp2
    go_ret
    exact ⟨rfl, D1⟩
  have hsz1 := D1.size
  go_wp2_with (at_make; refine wpList_make_full _ rfl _ _ 22 rfl w.heap.size 5 i0 (.int .u8 0) 1 Try.underlying22 hi hz0 hz1 .i64 .i64 _ _ N rfl rfl rfl rfl (by rw [hz2]; omega) (by unfold maxLen; omega) hsz1 ?_; intro w2 hx2 hg2)
  rw [zero_cells] at hx2
  obtain ⟨gx, hgxe⟩ : ∃ gx, w1.heap.size = gx := ⟨_, rfl⟩
  have D2 : Bel w w2 := Below.grown D1 hg2 hsz1 (by simp)
  rw [hgxe] at hx2 ⊢
  have hgw : w.heap.size ≤ gx := by omega
  have HX2 := Lib.hid hx2
  have HD2 := Lib.hid D2
  clear hx2 hg2 hgxe D1 D2 hb1 hsz1
  go_loopg [10] N (fun gk s10 wr => TRel w gx N al bl cl N gk s10 wr)
  case atStart => exact ⟨0, List.replicate N 0#8, by omega, rfl, ⟨by simp, fun j h => by omega⟩, HX2.out, HD2.out⟩
  case round =>
    clear HX2 HD2
    obtain ⟨k, L, hk, rfl, hL, hx, hd⟩ := hrel
    by_cases hlt : k < N
    · have VA := HA.out.below hd (Nat.le_refl _)
      have VB := HB.out.below hd (Nat.le_refl _)
      have VC := HC.out.below hd (Nat.le_refl _)
      obtain ⟨ba, oa, ea, _, hca⟩ := VA.at0 (by omega)
      obtain ⟨bb, ob, eb, _, hcb⟩ := VB.at0 (by omega)
      obtain ⟨bc, oc, ec, _, hcc⟩ := VC.at0 (by omega)
      have ia := fun w' => run_at w' a0 ba oa al.length capa ea (k : Int) k rfl (by omega)
      have ib := fun w' => run_at w' b0 bb ob bl.length capb eb (k : Int) k rfl (by omega)
      have ic := fun w' => run_at w' c0 bc oc cl.length capc ec (k : Int) k rfl (by omega)
      have fa : wr.cell? ⟨ba, oa + k, none⟩ = some (.int .u8 (nv (al[k]?.getD 0#8))) := by rw [hca k _ (List.getElem?_eq_getElem (by omega))]; simp [show k < al.length by omega]
      have fb : wr.cell? ⟨bb, ob + k, none⟩ = some (.int .u8 (nv (bl[k]?.getD 0#8))) := by rw [hcb k _ (List.getElem?_eq_getElem (by omega))]; simp [show k < bl.length by omega]
      have fc : wr.cell? ⟨bc, oc + k, none⟩ = some (.int .u8 (nv (cl[k]?.getD 0#8))) := by rw [hcc k _ (List.getElem?_eq_getElem (by omega))]; simp [show k < cl.length by omega]
      have fx : ∃ u, wr.cell? ⟨gx, k, none⟩ = some u := ⟨_, by rw [hx.cellAt k (by omega), cells_get, List.getElem?_eq_getElem (by rw [hL.1]; exact hlt)]; rfl⟩
      obtain ⟨u, hu⟩ := fx
      have ff := hx.frozenAt k
      have hkI : (k : Int) < (N : Int) := by omega
      have hk0 : (0 : Int) ≤ (k : Int) := by omega
      have HX := Lib.hid hx
      have HD := Lib.hid hd
      have HL := Lib.hid hL
      clear hx hd hL VA VB VC ea eb ec hca hcb hcc
      go_wp2
      go_region
      go_wp2
      go_roundg (gk - 1)
      case measure => omega
      case rel =>
        rw [xor8, xor8]
        exact ⟨k + 1, L.set k ((al[k]?.getD 0#8) ^^^ (bl[k]?.getD 0#8) ^^^ (cl[k]?.getD 0#8)), by omega, by go_num, HL.out.step hlt, by rw [cells_set]; exact (World.ownsRow.stored (w := wr.drew) HX.out k _).1, Below.setCell (Below.drew HD.out) hgw _⟩
    · obtain rfl : k = N := by omega
      have hLL := hL.all hNa hNb hNc
      have hxl := hL.1
      have hcr : Crc.crc L = Crc.crc (al.take k) ^^^ Crc.crc (bl.take k) ^^^ Crc.crc (cl.take k) := by rw [hLL, Crc.crc_three _ _ _ (by simp; omega) (by simp; omega)]
      have VX := (Vw.of_own hx).2
      have ia := fun w' => run_head w' a0 al.length capa k (by omega)
      have ib := fun w' => run_head w' b0 bl.length capb k (by omega)
      have ic := fun w' => run_head w' c0 cl.length capc k (by omega)
      obtain ⟨X, hX⟩ : ∃ V, nv (Crc.crc L) = V := ⟨_, rfl⟩
      obtain ⟨A, hA⟩ : ∃ V, nv (Crc.crc (al.take k)) = V := ⟨_, rfl⟩
      obtain ⟨B, hB⟩ : ∃ V, nv (Crc.crc (bl.take k)) = V := ⟨_, rfl⟩
      obtain ⟨C, hC⟩ : ∃ V, nv (Crc.crc (cl.take k)) = V := ⟨_, rfl⟩
      have hfin : (X == bits .xor .i64 (bits .xor .i64 A B) C) = true := by
        rw [← hX, ← hA, ← hB, ← hC, xor64, xor64, hcr]; simp
      have C1 : Hid (∀ wx, Below wr.heap.size wr wx → Bel w wx → Calls Try.prog 13 #[.slice (some ⟨gx, 0, none⟩) k k] wx (NumC w X)) := fun wx h h' => by
        have := of_any (some ⟨gx, 0, none⟩) k k L wx hxl.symm (VX.below h (Nat.le_refl _)) (by omega)
        rw [hX] at this
        exact this.mono fun _ _ e => ⟨e.1, h'.later e.2⟩
      have C2 : Hid (∀ wx, Bel w wx → Calls Try.prog 13 #[.slice (sla a0 capa 0) k capa] wx (NumC w A)) := fun wx h => ofc h (HA.out.head k hNa) (by simp; omega) (by simp; omega) hA
      have C3 : Hid (∀ wx, Bel w wx → Calls Try.prog 13 #[.slice (sla b0 capb 0) k capb] wx (NumC w B)) := fun wx h => ofc h (HB.out.head k hNb) (by simp; omega) (by simp; omega) hB
      have C4 : Hid (∀ wx, Bel w wx → Calls Try.prog 13 #[.slice (sla c0 capc 0) k capc] wx (NumC w C)) := fun wx h => ofc h (HC.out.head k hNc) (by simp; omega) (by simp; omega) hC
      have E0 : Below wr.heap.size wr wr.drew := (Below.refl _ _).drew
      have D0 : Bel w wr.drew := Below.drew hd
      clear hk hX hA hB hC VX hLL hcr hx hd hL hxl HA HB HC
      go_wp2
      go_region_held3 (fun _ => True) (trivial)
        (first
          | (go_at_call 13; (with_reducible refine (C1.out _ E0 D0).mono ?_); rintro e w4 ⟨rfl, D1⟩; clear D0)
          | (go_at_call 13; (with_reducible refine (C2.out _ D1).mono ?_); rintro e w5 ⟨rfl, D2⟩; clear D1)
          | (go_at_call 13; (with_reducible refine (C3.out _ D2).mono ?_); rintro e w6 ⟨rfl, D3⟩; clear D2)
          | (go_at_call 13; (with_reducible refine (C4.out _ D3).mono ?_); rintro e w7 ⟨rfl, D4⟩; clear D3))
      go_wp2
      go_ret
      exact ⟨rfl, D4⟩
end Go.Proofs.Ytmfkfheakahckaa
