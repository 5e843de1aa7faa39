/- put and Four: four bytes behind a made slice; get and Number: the number at a place; no condition but that indexes lie within. -/
import Derived.Test.YtmfkfheakahckaaDoorMay
import Derived.BigQuiet
set_option linter.unusedVariables false
namespace Go.Proofs.YtmfkfheakahckaaDoor
open Go.RowKit
theorem wrap8_ofInt (n : Int) : IntKind.u8.wrap n = nv (BitVec.ofInt 8 n) := by
  rw [IntKind.wrap_u8']; unfold nv; rw [BitVec.toNat_ofInt]; omega
def four (x : Int) : List (BitVec 8) := [BitVec.ofInt 8 x, BitVec.ofInt 8 (x / 256), BitVec.ofInt 8 (x / 65536), BitVec.ofInt 8 (x / 16777216)]
theorem own_block {w : World} {B e size : Nat} {v : Value} {n : Nat} {xs : List Value} (h : w.ownsRow B e size v n xs) : ∀ k, v.ownBlock = some k → B ≤ k := by
  intro k hk
  rcases h.2 with ⟨rfl, _⟩ | ⟨g, cap, cur, rfl, h2, _⟩
  · simp [Value.ownBlock] at hk
  · simp [Value.ownBlock] at hk; omega
def Put (B : Nat) (n : Nat) (l : List (BitVec 8)) (x : Int) (w : World) (e : Ending) (w' : World) : Prop :=
  ∃ v', e = .returned v' ∧ w'.ownsRow B 5 1 v' (n + 4) (cells (l ++ four x)) ∧ Below B w w'
theorem put_any (B : Nat) (v : Value) (n : Nat) (l : List (BitVec 8)) (x : Int) (w : World) (hown : w.ownsRow B 5 1 v n (cells l)) (hB : B ≤ w.heap.size) (hn : n ≤ 100000) :
    Calls Tryd.prog 24 #[v, .int .i64 x] w (Put B n l x w) := by
  obtain ⟨i0, hi, hz0, hz1, hz2⟩ := info_parts Tryd.info5
  have HO := Lib.hid hown
  clear hown
  have h0 := wrap8_ofInt x
  have h1 := wrap8_ofInt (x / 256)
  have h2 := wrap8_ofInt (x / 65536)
  have h3 := wrap8_ofInt (x / 16777216)
  have hs : (w.alloc (.cells (cells (four x)).toArray 5)).heap.size = w.heap.size + 1 := by simp
  go_enter Tryd.func24, Tryd.ntmps24
  go_wp2_with (at_builtin; refine wpList_append_own _ rfl _ _ 24 rfl B 5 i0 (.int .u8 0) 1 1 Tryd.underlying24 hi hz0 hz1 hz2 rfl (by decide) _ n (cells l) rfl (HO.out.alloc _) ⟨w.heap.size, 0, none⟩ 4 4 (cells (four x)) rfl (by rw [cells_length]; rfl) ?c1 (cells_one _) ?c3 ?c4 ?c5 ?_)
  case c1 =>
    intro j u hu
    rw [add_none, Nat.zero_add, World.cell?_alloc_mark]
    simpa [cells, four] using hu
  case c3 => unfold maxLen; omega
  case c4 => omega
  case c5 => simp; omega
  intro v' w1 hown hg hnil
  have HN := Lib.hid hnil
  clear hnil
  go_wp2
  go_ret
  refine ⟨_, rfl, by rw [cells_append]; exact hown, ((Below.refl _ _).alloc hB _).grown hg (by simp; omega) (own_block HO.out)⟩
theorem rfour_any (B : Nat) (v : Value) (n : Nat) (l : List (BitVec 8)) (x : Int) (w : World) (hown : w.ownsRow B 5 1 v n (cells l)) (hB : B ≤ w.heap.size) (hn : n ≤ 100000) :
    Calls Tryd.prog 28 #[v, .int .i64 x] w (Put B n l x w) := by
  obtain ⟨i0, hi, hz0, hz1, hz2⟩ := info_parts Tryd.info5
  have HO := Lib.hid hown
  clear hown
  have h0 := wrap8_ofInt x
  have h1 := wrap8_ofInt (x / 256)
  have h2 := wrap8_ofInt (x / 65536)
  have h3 := wrap8_ofInt (x / 16777216)
  have hs : (w.alloc (.cells (cells (four x)).toArray 5)).heap.size = w.heap.size + 1 := by simp
  go_enter Tryd.func28, Tryd.ntmps28
  go_wp2_with (at_builtin; refine wpList_append_own _ rfl _ _ 24 rfl B 5 i0 (.int .u8 0) 1 1 Tryd.underlying24 hi hz0 hz1 hz2 rfl (by decide) _ n (cells l) rfl (HO.out.alloc _) ⟨w.heap.size, 0, none⟩ 4 4 (cells (four x)) rfl (by rw [cells_length]; rfl) ?c1 (cells_one _) ?c3 ?c4 ?c5 ?_)
  case c1 =>
    intro j u hu
    rw [add_none, Nat.zero_add, World.cell?_alloc_mark]
    simpa [cells, four] using hu
  case c3 => unfold maxLen; omega
  case c4 => omega
  case c5 => simp; omega
  intro v' w1 hown hg hnil
  have HN := Lib.hid hnil
  clear hnil
  go_wp2
  go_ret
  refine ⟨_, rfl, by rw [cells_append]; exact hown, ((Below.refl _ _).alloc hB _).grown hg (by simp; omega) (own_block HO.out)⟩
theorem or_add (k x y : Nat) (hx : x < 2 ^ k) (hb : x + y * 2 ^ k < 4611686018427387904) : bits .or .i64 (x : Int) ((y * 2 ^ k : Nat) : Int) = ((x + y * 2 ^ k : Nat) : Int) := by
  show IntKind.i64.wrap (((BitVec.ofInt 64 (x : Int) ||| BitVec.ofInt 64 ((y * 2 ^ k : Nat) : Int)).toNat : Nat) : Int) = _
  have h1 : (BitVec.ofInt 64 (x : Int)).toNat = x := by rw [BitVec.ofInt_natCast, BitVec.toNat_ofNat]; exact Nat.mod_eq_of_lt (by omega)
  have h2 : (BitVec.ofInt 64 ((y * 2 ^ k : Nat) : Int)).toNat = y * 2 ^ k := by rw [BitVec.ofInt_natCast, BitVec.toNat_ofNat]; exact Nat.mod_eq_of_lt (by omega)
  have h3 : x ||| y * 2 ^ k = x + y * 2 ^ k := by rw [Nat.or_comm, Nat.mul_comm y, ← Nat.two_pow_add_eq_or_of_lt hx, Nat.add_comm]
  rw [BitVec.toNat_or, h1, h2, h3]
  exact IntWalk.i64_in _ (by omega)
theorem get_bytes (a b c d : BitVec 8) : bits .or .i64 (bits .or .i64 (bits .or .i64 (wrap64 (nv a)) (wrap64 (wrap64 (nv b) * 256))) (wrap64 (wrap64 (nv c) * 65536))) (wrap64 (wrap64 (nv d) * 16777216)) = nv a + nv b * 256 + nv c * 65536 + nv d * 16777216 := by
  have ha := a.isLt
  have hb := b.isLt
  have hc := c.isLt
  have hd := d.isLt
  have ea : wrap64 (nv a) = (a.toNat : Int) := IntWalk.wrap64_in _ (by unfold nv; omega)
  have eb0 : wrap64 (nv b) = nv b := IntWalk.wrap64_in _ (by unfold nv; omega)
  have ec0 : wrap64 (nv c) = nv c := IntWalk.wrap64_in _ (by unfold nv; omega)
  have ed0 : wrap64 (nv d) = nv d := IntWalk.wrap64_in _ (by unfold nv; omega)
  have eb : wrap64 (nv b * 256) = ((b.toNat * 2 ^ 8 : Nat) : Int) := (IntWalk.wrap64_in _ (by unfold nv; omega)).trans (by unfold nv; omega)
  have ec : wrap64 (nv c * 65536) = ((c.toNat * 2 ^ 16 : Nat) : Int) := (IntWalk.wrap64_in _ (by unfold nv; omega)).trans (by unfold nv; omega)
  have ed : wrap64 (nv d * 16777216) = ((d.toNat * 2 ^ 24 : Nat) : Int) := (IntWalk.wrap64_in _ (by unfold nv; omega)).trans (by unfold nv; omega)
  rw [ea, eb0, ec0, ed0, eb, ec, ed, or_add 8 _ _ (by omega) (by omega), or_add 16 _ _ (by omega) (by omega), or_add 24 _ _ (by omega) (by omega)]
  unfold nv
  omega
/-- the number of four bytes at a place -/
def num (l : List (BitVec 8)) (i : Nat) : Int := nv (l.getD i 0#8) + nv (l.getD (i + 1) 0#8) * 256 + nv (l.getD (i + 2) 0#8) * 65536 + nv (l.getD (i + 3) 0#8) * 16777216
theorem num_lt (l : List (BitVec 8)) (i : Nat) : 0 ≤ num l i ∧ num l i < 4294967296 := by
  have h0 := nv_lt8 (l.getD i 0#8)
  have h1 := nv_lt8 (l.getD (i + 1) 0#8)
  have h2 := nv_lt8 (l.getD (i + 2) 0#8)
  have h3 := nv_lt8 (l.getD (i + 3) 0#8)
  have g0 := nv_nonneg (l.getD i 0#8)
  have g1 := nv_nonneg (l.getD (i + 1) 0#8)
  have g2 := nv_nonneg (l.getD (i + 2) 0#8)
  have g3 := nv_nonneg (l.getD (i + 3) 0#8)
  unfold num
  omega
theorem num_eq (l : List (BitVec 8)) (i : Nat) (h0 : i + 3 < l.length) : nv l[i] + nv l[i + 1] * 256 + nv l[i + 2] * 65536 + nv l[i + 3] * 16777216 = num l i := by
  unfold num
  simp [List.getD, h0, (show i < l.length by omega), (show i + 1 < l.length by omega), (show i + 2 < l.length by omega)]

theorem get_row (bb off : Nat) (cap n : Nat) (i : Nat) (l : List (BitVec 8)) (w : World) (hn : n = l.length) (hl : n ≤ 100000) (hc : ∀ i c, l[i]? = some c → w.cell? ⟨bb, off + i, none⟩ = some (.int .u8 (nv c))) (hi : i + 4 ≤ n) (h0 : i + 3 < l.length) :
    Calls Tryd.prog 26 #[.slice (some ⟨bb, off, none⟩) n cap, .int .i64 i] w fun e w' => e = .returned (.int .i64 (num l i)) ∧ ∃ k, w' = w.drewN k := by
  have hc0 := hc i l[i] (List.getElem?_eq_getElem (by omega))
  have hc1 := hc (i + 1) l[i + 1] (List.getElem?_eq_getElem (by omega))
  have hc2 := hc (i + 2) l[i + 2] (List.getElem?_eq_getElem (by omega))
  have hc3 := hc (i + 3) l[i + 3] (List.getElem?_eq_getElem (by omega))
  go_enter Tryd.func26, Tryd.ntmps26
  have hi0 : (i : Int) + 3 < (n : Int) := by omega
  have hn0 : (n : Int) ≤ 100000 := by omega
  have w1 : IntKind.i64.wrap ((i : Int) + 1) = (i : Int) + 1 := IntWalk.i64_in _ (by omega)
  have w2 : IntKind.i64.wrap ((i : Int) + 2) = (i : Int) + 2 := IntWalk.i64_in _ (by omega)
  have w3 : IntKind.i64.wrap ((i : Int) + 3) = (i : Int) + 3 := IntWalk.i64_in _ (by omega)
  go_wp2_with fail
  go_quiet (fail)
  go_wp2
  have hz := get_bytes l[i] l[i + 1] l[i + 2] l[i + 3]
  rw [num_eq l i h0] at hz
  rw [hz]
  go_ret
  exact ⟨rfl, _, rfl⟩
theorem get_any (a : Option Addr) (cap n : Nat) (i : Nat) (l : List (BitVec 8)) (w : World) (hn : n = l.length) (hl : n ≤ 100000) (hv : Vw w a cap l) (hi : i + 4 ≤ n) :
    Calls Tryd.prog 26 #[.slice a n cap, .int .i64 i] w fun e w' => e = .returned (.int .i64 (num l i)) ∧ ∃ k, w' = w.drewN k := by
  obtain ⟨bb, off, rfl, _, hc⟩ := hv.at0 (by omega)
  exact get_row bb off cap n i l w hn hl hc hi (by omega)
theorem rnum_row (bb off : Nat) (cap n : Nat) (i : Nat) (l : List (BitVec 8)) (w : World) (hn : n = l.length) (hl : n ≤ 100000) (hc : ∀ i c, l[i]? = some c → w.cell? ⟨bb, off + i, none⟩ = some (.int .u8 (nv c))) (hi : i + 4 ≤ n) (h0 : i + 3 < l.length) :
    Calls Tryd.prog 30 #[.slice (some ⟨bb, off, none⟩) n cap, .int .i64 i] w fun e w' => e = .returned (.int .i64 (num l i)) ∧ ∃ k, w' = w.drewN k := by
  have hc0 := hc i l[i] (List.getElem?_eq_getElem (by omega))
  have hc1 := hc (i + 1) l[i + 1] (List.getElem?_eq_getElem (by omega))
  have hc2 := hc (i + 2) l[i + 2] (List.getElem?_eq_getElem (by omega))
  have hc3 := hc (i + 3) l[i + 3] (List.getElem?_eq_getElem (by omega))
  go_enter Tryd.func30, Tryd.ntmps30
  have hi0 : (i : Int) + 3 < (n : Int) := by omega
  have hn0 : (n : Int) ≤ 100000 := by omega
  have w1 : IntKind.i64.wrap ((i : Int) + 1) = (i : Int) + 1 := IntWalk.i64_in _ (by omega)
  have w2 : IntKind.i64.wrap ((i : Int) + 2) = (i : Int) + 2 := IntWalk.i64_in _ (by omega)
  have w3 : IntKind.i64.wrap ((i : Int) + 3) = (i : Int) + 3 := IntWalk.i64_in _ (by omega)
  go_wp2_with fail
  go_quiet (fail)
  go_wp2
  have hz := get_bytes l[i] l[i + 1] l[i + 2] l[i + 3]
  rw [num_eq l i h0] at hz
  rw [hz]
  go_ret
  exact ⟨rfl, _, rfl⟩
theorem rnum_any (a : Option Addr) (cap n : Nat) (i : Nat) (l : List (BitVec 8)) (w : World) (hn : n = l.length) (hl : n ≤ 100000) (hv : Vw w a cap l) (hi : i + 4 ≤ n) :
    Calls Tryd.prog 30 #[.slice a n cap, .int .i64 i] w fun e w' => e = .returned (.int .i64 (num l i)) ∧ ∃ k, w' = w.drewN k := by
  obtain ⟨bb, off, rfl, _, hc⟩ := hv.at0 (by omega)
  exact rnum_row bb off cap n i l w hn hl hc hi (by omega)
end Go.Proofs.YtmfkfheakahckaaDoor
