/- What is known of slices of bytes: one that came in or was made reads as a list; no condition. -/
import Derived.Test.YtbdlilgpalfnfaaKit
import Derived.Test.YtbdlilgpalfnfaaRows
import Derived.OwnWalk
import Derived.Laws.AppendOwnNone
set_option linter.unusedVariables false
namespace Go.Proofs.Ytbdlilgpalfnfaa
open Go.RowKit

/-- bytes as cells -/
def cells (l : List (BitVec 8)) : List Value := l.map fun c => .int .u8 (nv c)
theorem cells_length (l : List (BitVec 8)) : (cells l).length = l.length := by simp [cells]
theorem cells_get (l : List (BitVec 8)) (i : Nat) : (cells l)[i]? = (l[i]?).map fun c => .int .u8 (nv c) := by simp [cells]
theorem cells_append (l r : List (BitVec 8)) : cells (l ++ r) = cells l ++ cells r := by simp [cells]
theorem cells_one (l : List (BitVec 8)) : ∀ u ∈ cells l, u.oneCell' = true := by
  intro u hu; simp only [cells, List.mem_map] at hu; obtain ⟨c, _, rfl⟩ := hu; rfl
/-- a slice of bytes (address, capacity) that reads as l -/
def Vw (w : World) (a : Option Addr) (cap : Nat) (l : List (BitVec 8)) : Prop :=
  (a = none ∧ cap = 0 ∧ l = []) ∨ ∃ x, a = some x ∧ l.length ≤ cap ∧ cap ≤ maxLen ∧ ∀ i c, l[i]? = some c → w.cell? (x.add i) = some (.int .u8 (nv c))
theorem Vw.nil (w : World) : Vw w none 0 [] := .inl ⟨rfl, rfl, rfl⟩
theorem add_none (b off i : Nat) : (⟨b, off, none⟩ : Addr).add i = ⟨b, off + i, none⟩ := by unfold Addr.add; split <;> simp_all
theorem add_block (x : Addr) (i : Nat) : (x.add i).block = x.block := by unfold Addr.add; split <;> rfl
theorem Vw.grown {w w' : World} {a : Option Addr} {cap : Nat} {l : List (BitVec 8)} {row : Option Nat} (h : Vw w a cap l) (g : w.grownBy w' row) (hne : ∀ x, a = some x → some x.block ≠ row) : Vw w' a cap l := by
  rcases h with h | ⟨x, rfl, h1, h2, h3⟩
  · exact .inl h
  · refine .inr ⟨x, rfl, h1, h2, fun i c hc => g.cell (h3 i c hc) ?_⟩
    have := hne x rfl
    rwa [add_block]
theorem Vw.below {w w' : World} {B : Nat} {a : Option Addr} {cap : Nat} {l : List (BitVec 8)} (h : Vw w a cap l) (g : Below B w w') (hB : w.heap.size ≤ B) : Vw w' a cap l := by
  rcases h with h | ⟨x, rfl, h1, h2, h3⟩
  · exact .inl h
  · refine .inr ⟨x, rfl, h1, h2, fun i c hc => ?_⟩
    have h := h3 i c hc
    rw [g.cell (by have := World.block_lt_of_cell? w _ h; omega)]
    exact h
/-- where its first element lies -/
theorem Vw.at0 {w : World} {a : Option Addr} {cap : Nat} {l : List (BitVec 8)} (h : Vw w a cap l) (h0 : 0 < l.length) :
    ∃ b off, a = some ⟨b, off, none⟩ ∧ b < w.heap.size ∧ ∀ i c, l[i]? = some c → w.cell? ⟨b, off + i, none⟩ = some (.int .u8 (nv c)) := by
  rcases h with ⟨_, _, rfl⟩ | ⟨⟨b, off, spot⟩, rfl, h1, h2, h3⟩
  · simp at h0
  · have hc := h3 0 _ (List.getElem?_eq_getElem h0)
    have hsp : spot = none := by simpa [Addr.add] using World.cell?_spot hc
    subst hsp
    refine ⟨b, off, rfl, ?_, fun i c hi => by have := h3 i c hi; rwa [add_none] at this⟩
    exact World.block_lt_of_cell? w _ hc
theorem Vw.len {w : World} {a : Option Addr} {cap : Nat} {l : List (BitVec 8)} (h : Vw w a cap l) : l.length ≤ cap ∧ cap ≤ maxLen := by
  rcases h with ⟨_, rfl, rfl⟩ | ⟨_, _, h1, h2, _⟩
  · exact ⟨Nat.le_refl _, Nat.zero_le _⟩
  · exact ⟨h1, h2⟩
/-- a row of the call's own reads as a list -/
theorem Vw.of_own {w : World} {base g n cap : Nat} {l : List (BitVec 8)} (h : w.ownsRow base 5 1 (.slice (some ⟨g, 0, none⟩) n cap) n (cells l)) : l.length = n ∧ Vw w (some ⟨g, 0, none⟩) cap l := by
  have hl : l.length = n := by have := h.1; rw [cells_length] at this; omega
  refine ⟨hl, .inr ⟨_, rfl, ?_, ?_, fun i c hc => ?_⟩⟩
  · rcases h.2 with ⟨h', _⟩ | ⟨g', cap', cur, h', _, _, h1, _⟩
    · simp at h'
    · simp only [Value.slice.injEq] at h'; omega
  · rcases h.2 with ⟨h', _⟩ | ⟨g', cap', cur, h', _, _, _, h1, _⟩
    · simp at h'
    · simp only [Value.slice.injEq] at h'; rw [h'.2.2]; exact h1
  · have hi : i < l.length := by rw [List.getElem?_eq_some_iff] at hc; exact hc.1
    rw [add_none, Nat.zero_add, h.cellAt i (by omega), cells_get, hc]; rfl
/-- xored with a stream -/
def lo (x : BitVec 16) : BitVec 8 := x.setWidth 8
def mx : BitVec 16 → List (BitVec 8) → List (BitVec 8)
  | _, [] => []
  | x, c :: r => (c ^^^ lo x) :: mx (Scr.it 8 x) r
theorem mx_length (x : BitVec 16) (l : List (BitVec 8)) : (mx x l).length = l.length := by
  induction l generalizing x with
  | nil => rfl
  | cons c r ih => simp [mx, ih]
theorem mx_append (x : BitVec 16) (l r : List (BitVec 8)) : mx x (l ++ r) = mx x l ++ mx (Scr.it (8 * l.length) x) r := by
  induction l generalizing x with
  | nil => rfl
  | cons c l ih => simp only [List.cons_append, mx, ih, List.length_cons]; rw [Nat.mul_succ, Nat.add_comm, Scr.it_add]
theorem mx_mx (x : BitVec 16) (l : List (BitVec 8)) : mx x (mx x l) = l := by
  induction l generalizing x with
  | nil => rfl
  | cons c r ih => simp only [mx, ih]; rw [BitVec.xor_assoc, BitVec.xor_self, BitVec.xor_zero]
/-- the first k mixed, the others as they were -/
def mp (x : BitVec 16) (l : List (BitVec 8)) (k : Nat) : List (BitVec 8) := mx x (l.take k) ++ l.drop k
theorem mp_zero (x : BitVec 16) (l : List (BitVec 8)) : mp x l 0 = l := rfl
theorem mp_all (x : BitVec 16) (l : List (BitVec 8)) : mp x l l.length = mx x l := by simp [mp]
theorem mp_length (x : BitVec 16) (l : List (BitVec 8)) (k : Nat) : (mp x l k).length = l.length := by
  unfold mp; rw [List.length_append, mx_length, ← List.length_append, List.take_append_drop]
theorem mp_get (x : BitVec 16) (l : List (BitVec 8)) (k : Nat) (hk : k < l.length) : (mp x l k)[k]? = some l[k] := by
  unfold mp
  rw [List.getElem?_append_right (by rw [mx_length, List.length_take]; omega), mx_length, List.length_take, Nat.min_eq_left (Nat.le_of_lt hk), Nat.sub_self, List.getElem?_drop]
  simp [hk]
theorem mp_succ (x : BitVec 16) (l : List (BitVec 8)) (k : Nat) (hk : k < l.length) : mp x l (k + 1) = (mp x l k).set k (l[k] ^^^ lo (Scr.it (8 * k) x)) := by
  have hl : (mx x (l.take k)).length = k := by rw [mx_length, List.length_take]; omega
  unfold mp
  rw [List.set_append_right _ _ (by omega), hl, Nat.sub_self, List.drop_eq_getElem_cons hk, List.set_cons_zero, List.take_succ_eq_append_getElem hk, mx_append]
  have hk2 : (l.take k).length = k := by rw [List.length_take]; omega
  rw [hk2]
  simp [mx, List.append_assoc]
theorem cells_set (l : List (BitVec 8)) (k : Nat) (c : BitVec 8) : cells (l.set k c) = (cells l).set k (.int .u8 (nv c)) := by simp [cells]
theorem low8 (x : BitVec 16) : low x 8 = nv (lo x) := by unfold low nv lo; rw [BitVec.toNat_setWidth]
theorem wrap8_nv (x : BitVec 8) : IntKind.u8.wrap (nv x) = nv x := wrap8_nat _ x.isLt
end Go.Proofs.Ytbdlilgpalfnfaa
