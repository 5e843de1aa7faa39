/- What is known of slices of bytes and of ints: one that came in or was made reads as a list; a copy; no condition but at most 100000 bytes copied. -/
import Derived.Test.YtmfkfheakahckaaDoorKit
import Derived.Test.YtmfkfheakahckaaDoorRows
import Derived.OwnWalk
import Derived.OpenShut
import Derived.Laws.AppendOwnNone
import Derived.Outline
set_option linter.unusedVariables false
namespace Go.Proofs.YtmfkfheakahckaaDoor
open Go.RowKit

/-- bytes as cells -/
def cells (l : List (BitVec 8)) : List Value := l.map fun c => .int .u8 (nv c)
theorem cells_length (l : List (BitVec 8)) : (cells l).length = l.length := by simp [cells]
theorem cells_get (l : List (BitVec 8)) (i : Nat) : (cells l)[i]? = (l[i]?).map fun c => .int .u8 (nv c) := by simp [cells]
theorem cells_append (l r : List (BitVec 8)) : cells (l ++ r) = cells l ++ cells r := by simp [cells]
theorem cells_one (l : List (BitVec 8)) : ∀ u ∈ cells l, u.oneCell' = true := by
  intro u hu; simp only [cells, List.mem_map] at hu; obtain ⟨c, _, rfl⟩ := hu; rfl
/-- a slice of bytes (address, capacity) that reads as l -/
def Vw (w : World) (a : Option Addr) (cap : Nat) (l : List (BitVec 8)) : Prop :=
  (a = none ∧ cap = 0 ∧ l = []) ∨ ∃ x, a = some x ∧ l.length ≤ cap ∧ cap ≤ maxLen ∧ ∀ i c, l[i]? = some c → w.cell? (x.add i) = some (.int .u8 (nv c))
theorem Vw.nil (w : World) : Vw w none 0 [] := .inl ⟨rfl, rfl, rfl⟩
theorem add_none (b off i : Nat) : (⟨b, off, none⟩ : Addr).add i = ⟨b, off + i, none⟩ := by unfold Addr.add; split <;> simp_all
theorem add_block (x : Addr) (i : Nat) : (x.add i).block = x.block := by unfold Addr.add; split <;> rfl
theorem Vw.grown {w w' : World} {a : Option Addr} {cap : Nat} {l : List (BitVec 8)} {row : Option Nat} (h : Vw w a cap l) (g : w.grownBy w' row) (hne : ∀ x, a = some x → some x.block ≠ row) : Vw w' a cap l := by
  rcases h with h | ⟨x, rfl, h1, h2, h3⟩
  · exact .inl h
  · refine .inr ⟨x, rfl, h1, h2, fun i c hc => g.cell (h3 i c hc) ?_⟩
    have := hne x rfl
    rwa [add_block]
theorem Vw.below {w w' : World} {B : Nat} {a : Option Addr} {cap : Nat} {l : List (BitVec 8)} (h : Vw w a cap l) (g : Below B w w') (hB : w.heap.size ≤ B) : Vw w' a cap l := by
  rcases h with h | ⟨x, rfl, h1, h2, h3⟩
  · exact .inl h
  · refine .inr ⟨x, rfl, h1, h2, fun i c hc => ?_⟩
    have h := h3 i c hc
    rw [g.cell (by have := World.block_lt_of_cell? w _ h; omega)]
    exact h
/-- where its first element lies -/
theorem Vw.at0 {w : World} {a : Option Addr} {cap : Nat} {l : List (BitVec 8)} (h : Vw w a cap l) (h0 : 0 < l.length) :
    ∃ b off, a = some ⟨b, off, none⟩ ∧ b < w.heap.size ∧ ∀ i c, l[i]? = some c → w.cell? ⟨b, off + i, none⟩ = some (.int .u8 (nv c)) := by
  rcases h with ⟨_, _, rfl⟩ | ⟨⟨b, off, spot⟩, rfl, h1, h2, h3⟩
  · simp at h0
  · have hc := h3 0 _ (List.getElem?_eq_getElem h0)
    have hsp : spot = none := by simpa [Addr.add] using World.cell?_spot hc
    subst hsp
    refine ⟨b, off, rfl, ?_, fun i c hi => by have := h3 i c hi; rwa [add_none] at this⟩
    exact World.block_lt_of_cell? w _ hc
theorem Vw.len {w : World} {a : Option Addr} {cap : Nat} {l : List (BitVec 8)} (h : Vw w a cap l) : l.length ≤ cap ∧ cap ≤ maxLen := by
  rcases h with ⟨_, rfl, rfl⟩ | ⟨_, _, h1, h2, _⟩
  · exact ⟨Nat.le_refl _, Nat.zero_le _⟩
  · exact ⟨h1, h2⟩
/-- a row of the call's own reads as a list -/
theorem Vw.of_own {w : World} {base g n cap : Nat} {l : List (BitVec 8)} (h : w.ownsRow base 5 1 (.slice (some ⟨g, 0, none⟩) n cap) n (cells l)) : l.length = n ∧ Vw w (some ⟨g, 0, none⟩) cap l := by
  have hl : l.length = n := by have := h.1; rw [cells_length] at this; omega
  refine ⟨hl, .inr ⟨_, rfl, ?_, ?_, fun i c hc => ?_⟩⟩
  · rcases h.2 with ⟨h', _⟩ | ⟨g', cap', cur, h', _, _, h1, _⟩
    · simp at h'
    · simp only [Value.slice.injEq] at h'; omega
  · rcases h.2 with ⟨h', _⟩ | ⟨g', cap', cur, h', _, _, _, h1, _⟩
    · simp at h'
    · simp only [Value.slice.injEq] at h'; rw [h'.2.2]; exact h1
  · have hi : i < l.length := by rw [List.getElem?_eq_some_iff] at hc; exact hc.1
    rw [add_none, Nat.zero_add, h.cellAt i (by omega), cells_get, hc]; rfl
theorem cells_set (l : List (BitVec 8)) (k : Nat) (c : BitVec 8) : cells (l.set k c) = (cells l).set k (.int .u8 (nv c)) := by simp [cells]
theorem wrap8_nv (x : BitVec 8) : IntKind.u8.wrap (nv x) = nv x := wrap8_nat _ x.isLt
theorem Vw.drewN {w : World} {a : Option Addr} {cap : Nat} {l : List (BitVec 8)} (h : Vw w a cap l) (n : Nat) : Vw (w.drewN n) a cap l := h
theorem Vw.take {w : World} {a : Option Addr} {cap : Nat} {l : List (BitVec 8)} (h : Vw w a cap l) (k : Nat) : Vw w a cap (l.take k) := by
  rcases h with ⟨h1, h2, rfl⟩ | ⟨x, h1, h2, h3, h4⟩
  · exact .inl ⟨h1, h2, by simp⟩
  · refine .inr ⟨x, h1, by rw [List.length_take]; omega, h3, fun i c hc => h4 i c ?_⟩
    rw [List.getElem?_take] at hc
    split at hc
    · exact hc
    · cases hc
theorem own_shape {w : World} {B n : Nat} {v : Value} {l : List (BitVec 8)} (h : w.ownsRow B 5 1 v n (cells l)) (h0 : 0 < n) :
    ∃ g cap, v = .slice (some ⟨g, 0, none⟩) n cap ∧ B ≤ g ∧ n ≤ cap ∧ g < w.heap.size := by
  rcases h.2 with ⟨_, h1⟩ | ⟨g, cap, cur, h1, h2, h3, h4, _⟩
  · omega
  · exact ⟨g, cap, h1, h2, h4, lt_of_block h3⟩
theorem Vw.cellAt {w : World} {g cap : Nat} {l : List (BitVec 8)} (h : Vw w (some ⟨g, 0, none⟩) cap l) (i : Nat) (c : BitVec 8) (hc : l[i]? = some c) : w.cell? ⟨g, i, none⟩ = some (.int .u8 (nv c)) := by
  rcases h with ⟨h, _⟩ | ⟨x, hx, _, _, h⟩
  · cases h
  · cases hx; have := h i c hc; rwa [add_none, Nat.zero_add] at this
/-- a slice of ints (address, capacity) that reads as l -/
def Iw (w : World) (a : Option Addr) (cap : Nat) (l : List Int) : Prop :=
  (a = none ∧ cap = 0 ∧ l = []) ∨ ∃ x, a = some x ∧ l.length ≤ cap ∧ cap ≤ maxLen ∧ ∀ i c, l[i]? = some c → w.cell? (x.add i) = some (.int .i64 c)
theorem Iw.below {w w' : World} {B : Nat} {a : Option Addr} {cap : Nat} {l : List Int} (h : Iw w a cap l) (g : Below B w w') (hB : w.heap.size ≤ B) : Iw w' a cap l := by
  rcases h with h | ⟨x, rfl, h1, h2, h3⟩
  · exact .inl h
  · refine .inr ⟨x, rfl, h1, h2, fun i c hc => ?_⟩
    have h := h3 i c hc
    rw [g.cell (by have := World.block_lt_of_cell? w _ h; omega)]
    exact h
theorem Iw.at {w : World} {a : Option Addr} {cap : Nat} {l : List Int} (h : Iw w a cap l) {i : Nat} {c : Int} (hc : l[i]? = some c) :
    ∃ b off, a = some ⟨b, off, none⟩ ∧ w.cell? ⟨b, off + i, none⟩ = some (.int .i64 c) := by
  rcases h with ⟨_, _, rfl⟩ | ⟨⟨b, off, spot⟩, rfl, h1, h2, h3⟩
  · simp at hc
  · have h0 : 0 < l.length := by have := (List.getElem?_eq_some_iff.1 hc).1; omega
    have hc0 := h3 0 _ (List.getElem?_eq_getElem h0)
    have hsp : spot = none := by simpa [Addr.add] using World.cell?_spot hc0
    subst hsp
    exact ⟨b, off, rfl, by have := h3 i c hc; rwa [add_none] at this⟩
/-- where a piece of a slice begins -/
def sla (a : Option Addr) (cap lo : Nat) : Option Addr := if cap = lo then a else a.map (·.add lo)
theorem elem24 : Tryd.prog.underlying 24 = some (.slice (Tryd.prog.elem 24)) := by kernel_rfl
theorem size24 (w : World) : (sizeOf (Tryd.prog.elem 24)).run Tryd.prog w = .ok 1 w := by kernel_rfl
theorem run_piece (w : World) (a : Option Addr) (n cap lo k : Nat) (h : lo + k ≤ cap) :
    (Instr.slice 24 (.slice a n cap) (some (.int .i64 (lo : Int))) (some (.int .i64 ((lo : Int) + (k : Int)))) none).run Tryd.prog w = .ok (.slice (sla a cap lo) k (cap - lo)) w := by
  rw [run_slice_lh (P := Tryd.prog) w 24 a n cap elem24 .i64 .i64 lo (lo + k) (by omega) (by omega) (by omega), size24]
  simp only [Result.andThen, sliced, sla, Nat.mul_one, Int.toNat_natCast]
  have e : ((lo : Int) + (k : Int)).toNat = lo + k := by omega
  rw [e, Nat.add_sub_cancel_left]
theorem run_head (w : World) (a : Option Addr) (n cap k : Nat) (h : k ≤ cap) :
    (Instr.slice 24 (.slice a n cap) none (some (.int .i64 (k : Int))) none).run Tryd.prog w = .ok (.slice (sla a cap 0) k cap) w := by
  rw [run_slice_h (P := Tryd.prog) w 24 a n cap elem24 .i64 k (by omega) (by omega), size24]
  simp only [Result.andThen, sliced, sla, Nat.mul_one, Int.toNat_natCast, Nat.sub_zero]
theorem run_tail (w : World) (a : Option Addr) (n cap lo : Nat) (h : lo ≤ n) :
    (Instr.slice 24 (.slice a n cap) (some (.int .i64 (lo : Int))) none none).run Tryd.prog w = .ok (.slice (sla a cap lo) (n - lo) (cap - lo)) w := by
  rw [run_slice_l (P := Tryd.prog) w 24 a n cap elem24 .i64 lo (by omega) (by omega), size24]
  simp only [Result.andThen, sliced, sla, Nat.mul_one, Int.toNat_natCast]
/-- a piece of a slice -/
theorem Vw.piece {w : World} {a : Option Addr} {cap : Nat} {l : List (BitVec 8)} (h : Vw w a cap l) (lo n : Nat) (hlo : lo + n ≤ l.length) :
    Vw w (sla a cap lo) (cap - lo) ((l.drop lo).take n) := by
  unfold sla
  rcases h with ⟨rfl, rfl, rfl⟩ | ⟨x, rfl, h2, h3, h4⟩
  · exact .inl ⟨by split <;> rfl, by omega, by simp⟩
  · refine .inr ?_
    have hl : ((l.drop lo).take n).length = n := by rw [List.length_take, List.length_drop]; omega
    by_cases hc : cap = lo
    · refine ⟨x, by rw [if_pos hc], by omega, by omega, fun i c hi => ?_⟩
      have : i < n := by have := (List.getElem?_eq_some_iff.1 hi).1; omega
      omega
    · refine ⟨x.add lo, by rw [if_neg hc]; rfl, by omega, by omega, fun i c hi => ?_⟩
      rw [List.getElem?_take] at hi
      split at hi
      · rw [List.getElem?_drop] at hi
        have h := h4 _ _ hi
        have hsp : x.spot = none := by
          have h0 : 0 < l.length := by have := (List.getElem?_eq_some_iff.1 hi).1; omega
          have := World.cell?_spot (h4 0 _ (List.getElem?_eq_getElem h0))
          simpa [Addr.add] using this
        obtain ⟨b, off, spot⟩ := x
        subst hsp
        rw [add_none, add_none, Nat.add_assoc]; rwa [add_none] at h
      · cases hi
/-- the shape of what the call made -/
theorem own_shape' {w : World} {B n : Nat} {v : Value} {l : List (BitVec 8)} (h : w.ownsRow B 5 1 v n (cells l)) (hw : 0 ≤ n) :
    ∃ a cap, v = .slice a n cap ∧ Vw w a cap l ∧ ∀ x, a = some x → B ≤ x.block ∧ x.block < w.heap.size := by
  rcases id h.2 with ⟨rfl, rfl⟩ | ⟨g, cap, cur, rfl, h2, h3, h4, _⟩
  · have hl : l = [] := List.length_eq_zero_iff.1 (by have := h.1; rw [cells_length] at this; omega)
    subst hl
    exact ⟨none, 0, rfl, Vw.nil _, fun x e => by cases e⟩
  · exact ⟨_, cap, rfl, (Vw.of_own h).2, fun x e => by cases e; exact ⟨h2, lt_of_block h3⟩⟩
theorem Below.of_grown' {B sb : Nat} {w w' w'' : World} (h : Below B w w') (g : w'.grownBy w'' (some sb)) (hB : w.heap.size ≤ sb) (hBw : B ≤ w.heap.size := by exact Nat.le_refl _) : Below B w w'' :=
  h.grown g (Nat.le_trans hBw h.size) (fun k hk => by cases hk; omega)
/-- a far write behind -/
theorem gfar {a b c : World} {s : Nat} {row : Option Nat} (h : a.grownBy b (some s)) (k : b.grownBy c row) (hr : ∀ j, row = some j → a.heap.size ≤ j) : a.grownBy c (some s) :=
  ⟨k.os.trans h.os, k.tape.trans h.tape, k.output.trans h.output, Nat.le_trans h.size k.size, fun i hi hne =>
    (k.block i (Nat.lt_of_lt_of_le hi h.size) (fun e => by have := hr i e.symm; omega)).trans (h.block i hi hne)⟩
/-- WHAT A ROW TELLS OF A SLICE OF INTEGERS THAT CAME IN. -/
def IsRow (k : IntKind) (w : World) (a : Option Addr) (len cap : Nat) (zs : List Int) : Prop :=
  (a = none ∧ len = 0 ∧ cap = 0 ∧ zs = []) ∨
  ∃ x, a = some x ∧ len ≤ cap ∧ cap ≤ maxLen ∧ zs.length = cap ∧ (∀ i, i < zs.length → w.cell? (x.add i) = some (.int k (zs.getD i 0))) ∧ ∀ n ∈ zs, (Lit.int k n).wf = true
theorem IsRow.view {w : World} {a : Option Addr} {len cap : Nat} {zs : List Int} (h : IsRow .u8 w a len cap zs) : ∃ bl : List (BitVec 8), bl.length = len ∧ Vw w a cap bl := by
  rcases h with ⟨rfl, rfl, rfl, rfl⟩ | ⟨x, rfl, h1, h2, h3, h4, h5⟩
  · exact ⟨[], rfl, Vw.nil w⟩
  · have hl : ((zs.take len).map (BitVec.ofInt 8)).length = len := by rw [List.length_map, List.length_take]; omega
    refine ⟨(zs.take len).map (BitVec.ofInt 8), hl, .inr ⟨x, rfl, by omega, h2, fun i c hc => ?_⟩⟩
    rw [List.getElem?_map, List.getElem?_take] at hc
    split at hc
    · have hi : i < zs.length := by omega
      rw [List.getElem?_eq_getElem hi] at hc
      simp only [Option.map_some, Option.some.injEq] at hc
      rw [h4 i hi, ← hc]
      have hb := bounds_u8 (h5 zs[i] (List.getElem_mem hi))
      have e : zs.getD i 0 = zs[i] := by simp [List.getD, List.getElem?_eq_getElem hi]
      rw [e]
      unfold nv
      rw [BitVec.toNat_ofInt]
      congr 2
      omega
    · cases hc
theorem IsRow.ints {w : World} {a : Option Addr} {len cap : Nat} {zs : List Int} (h : IsRow .i64 w a len cap zs) : ∃ cs : List Int, cs.length = len ∧ Iw w a cap cs := by
  rcases h with ⟨rfl, rfl, rfl, rfl⟩ | ⟨x, rfl, h1, h2, h3, h4, h5⟩
  · exact ⟨[], rfl, .inl ⟨rfl, rfl, rfl⟩⟩
  · have hl : (zs.take len).length = len := by rw [List.length_take]; omega
    refine ⟨zs.take len, hl, .inr ⟨x, rfl, by omega, h2, fun i c hc => ?_⟩⟩
    rw [List.getElem?_take] at hc
    split at hc
    · have hi : i < zs.length := by omega
      rw [h4 i hi]
      simp [List.getD, hc]
    · cases hc
theorem Tryd.info5 : (Tryd.prog.info? 5).map (fun i => (i.zero, i.size, i.bytes)) = some (some (.int .u8 0), 1, 1) := by kernel_rfl
def Copied (l : List (BitVec 8)) (w : World) (e : Ending) (w' : World) : Prop :=
  ∃ v, e = .returned v ∧ w'.ownsRow w.heap.size 5 1 v l.length (cells l) ∧ Below w.heap.size w w'
theorem copy_any (a : Option Addr) (cap : Nat) (l : List (BitVec 8)) (w : World) (hv : Vw w a cap l) (hl : l.length ≤ 100000) :
    Calls Tryd.prog 10 #[.slice a l.length cap] w (Copied l w) := by
  obtain ⟨i0, hi, hz0, hz1, hz2⟩ := info_parts Tryd.info5
  have hlen := hv.len
  rcases hv with ⟨rfl, rfl, rfl⟩ | ⟨ad, rfl, h1, h2, h3⟩
  · go_enter Tryd.func10, Tryd.ntmps10
    go_wp2_with (first
      | (at_make; refine wpList_make_own _ rfl _ _ 24 rfl w.heap.size 5 i0 (.int .u8 0) 1 Tryd.underlying24 hi hz0 hz1 .i64 .i64 _ 0 rfl rfl rfl (by omega) (by unfold maxLen; omega) (Nat.le_refl _) ?_; intro w1 hown1 hg1)
      | (at_builtin; refine wpList_append_own_none rfl _ _ 24 rfl w.heap.size 5 i0 1 Tryd.underlying24 hi hz1 _ 0 [] rfl hown1 rfl ?_))
    go_ret
    exact ⟨_, rfl, hown1, (Below.refl _ _).grown hg1 (Nat.le_refl _) (by simp)⟩
  · go_enter Tryd.func10, Tryd.ntmps10
    go_wp2_with (first
      | (at_make; refine wpList_make_own _ rfl _ _ 24 rfl w.heap.size 5 i0 (.int .u8 0) 1 Tryd.underlying24 hi hz0 hz1 .i64 .i64 _ l.length rfl rfl rfl (by rw [hz2]; omega) (by unfold maxLen; omega) (Nat.le_refl _) ?_; intro w1 hown1 hg1)
      | (at_builtin; refine wpList_append_own _ rfl _ _ 24 rfl w.heap.size 5 i0 (.int .u8 0) 1 1 Tryd.underlying24 hi hz0 hz1 hz2 rfl (by decide) _ _ _ rfl hown1 ad l.length cap (cells l) rfl (by rw [cells_length]; omega) ?c1 (cells_one l) ?c3 ?c4 ?c5 ?_))
    case c1 =>
      intro j u hu
      rw [cells_get] at hu
      cases hc : l[j]? with
      | none => rw [hc] at hu; cases hu
      | some c => rw [hc] at hu; cases hu; exact hg1.cell (h3 j c hc) (by simp)
    case c3 => unfold maxLen; omega
    case c4 => omega
    case c5 => exact hg1.size
    intro v' w2 hown hg hnil
    clear h3
    go_wp2
    go_ret
    exact ⟨_, rfl, by simpa using hown, ((Below.refl _ _).grown hg1 (Nat.le_refl _) (by simp)).grown hg hg1.size (by simp [Value.ownBlock])⟩
theorem copy_n (a : Option Addr) (cap n : Nat) (l : List (BitVec 8)) (w : World) (hn : n = l.length) (hv : Vw w a cap l) (hl : l.length ≤ 100000) :
    Calls Tryd.prog 10 #[.slice a n cap] w (Copied l w) := by subst hn; exact copy_any a cap l w hv hl
theorem and_pow_i64 (a : Int) (k : Nat) (hk : k ≤ 62) : bits .and .i64 a (((2 ^ k - 1 : Nat) : Nat) : Int) = a % (2 ^ k : Nat) := by
  show IntKind.i64.wrap ((BitVec.ofInt 64 a &&& BitVec.ofInt 64 ((2 ^ k - 1 : Nat) : Int)).toNat : Int) = _
  have h2 : (2 : Nat) ^ k ≤ 2 ^ 62 := Nat.pow_le_pow_right (by omega) hk
  have h1 : (BitVec.ofInt 64 ((2 ^ k - 1 : Nat) : Int)).toNat = 2 ^ k - 1 := by
    rw [BitVec.ofInt_natCast, BitVec.toNat_ofNat]; exact Nat.mod_eq_of_lt (by omega)
  rw [BitVec.toNat_and, h1, Nat.and_two_pow_sub_one_eq_mod, BitVec.toNat_ofInt, IntKind.wrap_i64]
  have hp : 0 < 2 ^ k := Nat.two_pow_pos k
  have hd : (2 : Int) ^ 64 = ((2 ^ k : Nat) : Int) * ((2 ^ (64 - k) : Nat) : Int) := by
    rw [← Int.natCast_mul, ← Nat.pow_add, show k + (64 - k) = 64 by omega]; rfl
  have e : (((a % 2 ^ 64).toNat % 2 ^ k : Nat) : Int) = a % ((2 ^ k : Nat) : Int) := by
    rw [Int.natCast_emod, Int.toNat_of_nonneg (Int.emod_nonneg _ (by decide)), hd]
    exact Int.emod_emod_of_dvd _ ⟨_, rfl⟩
  have hb1 : 0 ≤ a % ((2 ^ k : Nat) : Int) := Int.emod_nonneg _ (by omega)
  have hb2 : a % ((2 ^ k : Nat) : Int) < ((2 ^ k : Nat) : Int) := Int.emod_lt_of_pos _ (by omega)
  simp only [show ((2 : Nat) ^ 64 : Nat) = 18446744073709551616 from rfl] at *
  have e' : (((a % ((18446744073709551616 : Nat) : Int)).toNat % 2 ^ k : Nat) : Int) = a % ((2 ^ k : Nat) : Int) := e
  rw [e']
  omega
end Go.Proofs.YtmfkfheakahckaaDoor
