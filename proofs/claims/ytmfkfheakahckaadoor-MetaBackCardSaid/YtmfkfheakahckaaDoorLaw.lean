/- Plain facts on a record's bytes: they say the record; one turned bit makes them none; how many bits are 0; no condition but that the record may be; no program is run. -/
import Derived.Test.YtmfkfheakahckaaDoorZer
set_option linter.unusedVariables false
namespace Go.Proofs.YtmfkfheakahckaaDoor
open Go.RowKit
theorem getD_left (a b : List (BitVec 8)) (i : Nat) (h : i < a.length) : (a ++ b).getD i 0#8 = a.getD i 0#8 := by
  simp [List.getD, List.getElem?_append_left h]
theorem getD_right (a b : List (BitVec 8)) (i : Nat) : (a ++ b).getD (a.length + i) 0#8 = b.getD i 0#8 := by
  simp [List.getD, List.getElem?_append_right (Nat.le_add_right _ _)]
theorem num_left (a b : List (BitVec 8)) (i : Nat) (h : i + 4 ≤ a.length) : num (a ++ b) i = num a i := by
  unfold num
  rw [getD_left _ _ _ (by omega), getD_left _ _ _ (by omega), getD_left _ _ _ (by omega), getD_left _ _ _ (by omega)]
theorem num_right (a b : List (BitVec 8)) (i n : Nat) (h : n = a.length) : num (a ++ b) (n + i) = num b i := by
  subst h
  unfold num
  rw [Nat.add_assoc, Nat.add_assoc, Nat.add_assoc, getD_right, getD_right, getD_right, getD_right]
theorem num_four (x : Int) (h0 : 0 ≤ x) (h1 : x < 4294967296) : num (four x) 0 = x := by
  unfold num four nv
  simp only [List.getD, List.getElem?_cons_zero, Nat.zero_add, List.getElem?_cons_succ, Option.getD_some, BitVec.toNat_ofInt]
  omega
theorem four_length (x : Int) : (four x).length = 4 := rfl
theorem four_inj {x y : Int} (hx : 0 ≤ x ∧ x < 4294967296) (hy : 0 ≤ y ∧ y < 4294967296) (h : four x = four y) : x = y := by
  rw [← num_four x hx.1 hx.2, ← num_four y hy.1 hy.2, h]
theorem num_head (m : Nat → Int) (k i : Nat) (hi : i < k) (hm : ∀ j, j < k → 0 ≤ m j ∧ m j < 4294967296) : num (head m k) (4 * i) = m i := by
  induction k with
  | zero => omega
  | succ k ih =>
    rw [head]
    by_cases h : i < k
    · rw [num_left _ _ _ (by rw [head_length]; omega)]
      exact ih h (fun j hj => hm j (by omega))
    · obtain rfl : i = k := by omega
      rw [show 4 * i = 4 * i + 0 from rfl, num_right _ _ _ _ (head_length m i).symm]
      exact num_four _ (hm i hi).1 (hm i hi).2
theorem crc_rng (l : List (BitVec 8)) : 0 ≤ nv (Crc.crc l) ∧ nv (Crc.crc l) < 4294967296 := ⟨nv_nonneg _, nv_lt32 _⟩
theorem May.rng {m : Nat → Int} (h : May m) (j : Nat) (hj : j < 6) : 0 ≤ m j ∧ m j < 4294967296 := by have := h.le j hj; omega
theorem num_rec_24 (m : Nat → Int) (l : List (BitVec 8)) : num (recb m l) 24 = nv (Crc.crc l) := by
  unfold recb
  rw [num_left _ _ _ (by rw [body_length]; decide), body, show 24 = 24 + 0 from rfl, num_right _ _ _ _ (head_length m 6).symm]
  exact num_four _ (crc_rng l).1 (crc_rng l).2
theorem num_rec_28 (m : Nat → Int) (l : List (BitVec 8)) : num (recb m l) 28 = nv (Crc.crc (body m l)) := by
  unfold recb
  rw [show 28 = 28 + 0 from rfl, num_right _ _ _ _ (body_length m l).symm]
  exact num_four _ (crc_rng _).1 (crc_rng _).2
theorem rec_take (m : Nat → Int) (l : List (BitVec 8)) : (recb m l).take 28 = body m l := by
  unfold recb
  rw [List.take_append_of_le_length (by rw [body_length]; exact Nat.le_refl _), List.take_of_length_le (by rw [body_length]; exact Nat.le_refl _)]
theorem mOf_rec {m : Nat → Int} (h : May m) (l : List (BitVec 8)) (i : Nat) (hi : i < 6) : mOf (recb m l) i = m i := by
  unfold mOf recb
  rw [num_left _ _ _ (by rw [body_length]; omega), body, num_left _ _ _ (by rw [head_length]; omega)]
  exact num_head m 6 i hi (fun j hj => h.rng j hj)
theorem same_rec {m : Nat → Int} (h : May m) (l : List (BitVec 8)) : Same (mOf (recb m l)) m :=
  ⟨mOf_rec h l 0 (by decide), mOf_rec h l 1 (by decide), mOf_rec h l 2 (by decide), mOf_rec h l 3 (by decide), mOf_rec h l 4 (by decide), mOf_rec h l 5 (by decide)⟩
theorem May.congr {m n : Nat → Int} (h : May m) (s : Same n m) : May n := by unfold May Same at *; omega
theorem fits_rec (m : Nat → Int) (l : List (BitVec 8)) : Fits (recb m l) l := ⟨recb_length m l, by rw [num_rec_28, rec_take], num_rec_24 m l⟩
theorem good_rec {m : Nat → Int} (h : May m) (l : List (BitVec 8)) : Good (recb m l) l := ⟨fits_rec m l, h.congr (same_rec h l)⟩
theorem good_other {m : Nat → Int} (h : May m) (l r : List (BitVec 8)) : Good (recb m l) r ↔ Crc.crc l = Crc.crc r := by
  constructor
  · rintro ⟨⟨_, _, h3⟩, _⟩
    rw [num_rec_24] at h3
    exact nv_inj h3
  · intro e
    exact ⟨⟨recb_length m l, by rw [num_rec_28, rec_take], by rw [num_rec_24, e]⟩, h.congr (same_rec h l)⟩
theorem rec_inj {m n : Nat → Int} (hm : May m) (hn : May n) (l : List (BitVec 8)) : recb m l = recb n l ↔ Same m n := by
  constructor
  · intro e
    have h1 := same_rec hm l
    have h2 := same_rec hn l
    rw [e] at h1
    unfold Same at *
    omega
  · intro s
    have hh : head m 6 = head n 6 := by
      obtain ⟨h0, h1, h2, h3, h4, h5⟩ := s
      simp only [head, h0, h1, h2, h3, h4, h5]
    unfold recb body
    rw [hh]
theorem rec_mid (m : Nat → Int) (l : List (BitVec 8)) : ((recb m l).drop 24).take 4 = four (nv (Crc.crc l)) := by
  unfold recb body
  rw [List.append_assoc, List.drop_append_of_le_length (by rw [head_length]; exact Nat.le_refl _), List.drop_of_length_le (by rw [head_length]; exact Nat.le_refl _), List.nil_append, List.take_append_of_le_length (by rw [four_length]; exact Nat.le_refl _)]
  rfl
theorem mid_eq (m n : Nat → Int) (l r : List (BitVec 8)) : (((recb m l).drop 24).take 4 == ((recb n r).drop 24).take 4) = decide (Crc.crc l = Crc.crc r) := by
  rw [rec_mid, rec_mid, Bool.eq_iff_iff, beq_iff_eq, decide_eq_true_iff]
  constructor
  · intro h; exact nv_inj (four_inj (crc_rng l) (crc_rng r) h)
  · intro h; rw [h]
/-! how many bits are 0 -/
theorem zl_append (a b : List (BitVec 8)) : zl (a ++ b) = zl a + zl b := by simp only [zl, List.map_append, List.sum_append]
theorem z8_two (c : BitVec 8) (h : c.toNat < 64) : 2 ≤ zk c 8 := by
  have h' : ∀ k : Fin 64, 2 ≤ zk (BitVec.ofNat 8 k.val) 8 := by decide +kernel
  have := h' ⟨c.toNat, h⟩
  simpa using this
theorem z8_64 : zk 64#8 8 = 7 := by decide +kernel
theorem z8_0 : zk 0#8 8 = 8 := by decide +kernel
theorem zero_four (x : Int) (h : 0 ≤ x ∧ x ≤ 1073741824) : 2 ≤ zl (four x) := by
  have e : zl (four x) = zk (BitVec.ofInt 8 x) 8 + (zk (BitVec.ofInt 8 (x / 256)) 8 + (zk (BitVec.ofInt 8 (x / 65536)) 8 + (zk (BitVec.ofInt 8 (x / 16777216)) 8 + 0))) := by simp only [zl, four, List.map_cons, List.map_nil, List.sum_cons, List.sum_nil]
  rw [e]
  by_cases h' : x = 1073741824
  · subst h'; decide +kernel
  · have := z8_two (BitVec.ofInt 8 (x / 16777216)) (by rw [BitVec.toNat_ofInt]; omega)
    omega
theorem zero_kind (x : Int) (h : 1 ≤ x ∧ x ≤ 6) : 30 ≤ zl (four x) := by
  have h' : ∀ k : Fin 7, 1 ≤ k.val → k.val ≤ 6 → 30 ≤ zl (four (k.val : Int)) := by decide +kernel
  have := h' ⟨x.toNat, by omega⟩ (by simp; omega) (by simp; omega)
  simpa [Int.toNat_of_nonneg (show 0 ≤ x by omega)] using this
theorem zero_rec {m : Nat → Int} (h : May m) (l : List (BitVec 8)) : 37 ≤ zl ((recb m l).take 24) := by
  have e : (recb m l).take 24 = head m 6 := by
    unfold recb body
    rw [List.append_assoc, List.take_append_of_le_length (by rw [head_length]; exact Nat.le_refl _), List.take_of_length_le (by rw [head_length]; exact Nat.le_refl _)]
  rw [e]
  simp only [head, zl_append]
  have h0 := zero_kind (m 0) h.1
  have h1 := zero_four (m 1) (h.le 1 (by decide))
  have h2 := zero_four (m 2) (h.le 2 (by decide))
  have h3 := zero_four (m 3) (h.le 3 (by decide))
  have h4 := zero_four (m 4) (h.le 4 (by decide))
  have h5 := zero_four (m 5) (h.le 5 (by decide))
  omega
/-! one turned bit -/
theorem flip_at (l : List (BitVec 8)) (k : Nat) (hk : k < 8 * l.length) : Crc.flip l k ≠ l := by
  intro e
  have h := congrArg (fun r => r[k / 8]?) e
  have hlt : k / 8 < l.length := by omega
  simp only [Crc.flip] at h
  rw [List.getElem?_set_self hlt, List.getElem?_eq_getElem hlt] at h
  simp only [Option.getD_some, Option.some.injEq] at h
  have h2 : l[k / 8] ^^^ (l[k / 8] ^^^ 1#8 <<< (k % 8)) = l[k / 8] ^^^ l[k / 8] := by rw [h]
  rw [← BitVec.xor_assoc, BitVec.xor_self, BitVec.zero_xor] at h2
  have h3 : ∀ j : Fin 8, 1#8 <<< j.val ≠ 0#8 := by decide +kernel
  exact h3 ⟨k % 8, by omega⟩ h2
theorem crc_flip_ne (l : List (BitVec 8)) (k : Nat) (hk : k < 8 * l.length) : Crc.crc (Crc.flip l k) ≠ Crc.crc l := by
  rw [Crc.crc_flip l k hk]
  intro e
  have h : Crc.crc l ^^^ (Crc.crc l ^^^ Crc.fl l.length k) = Crc.crc l ^^^ Crc.crc l := by rw [e]
  rw [← BitVec.xor_assoc, BitVec.xor_self, BitVec.zero_xor, Crc.fl_eq l.length k hk] at h
  exact absurd (Crc.it_inj0 _ _ h) (by decide)
theorem flip_left (a b : List (BitVec 8)) (k : Nat) (hk : k < 8 * a.length) : Crc.flip (a ++ b) k = Crc.flip a k ++ b := by
  unfold Crc.flip
  rw [List.getElem?_append_left (by omega), List.set_append_left _ _ (by omega)]
theorem flip_right (a b : List (BitVec 8)) (k n : Nat) (hn : n = 8 * a.length) : Crc.flip (a ++ b) (n + k) = a ++ Crc.flip b k := by
  unfold Crc.flip
  have e1 : (n + k) / 8 = a.length + k / 8 := by omega
  have e2 : (n + k) % 8 = k % 8 := by omega
  rw [e1, e2, List.getElem?_append_right (Nat.le_add_right _ _), List.set_append_right _ _ (Nat.le_add_right _ _), Nat.add_sub_cancel_left]
theorem bytes_of_num {a b : List (BitVec 8)} (ha : a.length = 4) (hb : b.length = 4) (h : num a 0 = num b 0) : a = b := by
  match a, ha, b, hb with
  | [a0, a1, a2, a3], _, [b0, b1, b2, b3], _ =>
    unfold num nv at h
    simp only [List.getD, List.getElem?_cons_zero, Nat.zero_add, List.getElem?_cons_succ, Option.getD_some] at h
    have := a0.isLt
    have := a1.isLt
    have := a2.isLt
    have := a3.isLt
    have := b0.isLt
    have := b1.isLt
    have := b2.isLt
    have := b3.isLt
    have e0 : a0 = b0 := BitVec.eq_of_toNat_eq (by omega)
    have e1 : a1 = b1 := BitVec.eq_of_toNat_eq (by omega)
    have e2 : a2 = b2 := BitVec.eq_of_toNat_eq (by omega)
    have e3 : a3 = b3 := BitVec.eq_of_toNat_eq (by omega)
    rw [e0, e1, e2, e3]
theorem flip_bad (m : Nat → Int) (l : List (BitVec 8)) (k : Nat) (hk : k < 8 * (32 + l.length)) :
    ¬ Good ((Crc.flip (recb m l ++ l) k).take 32) ((Crc.flip (recb m l ++ l) k).drop 32) := by
  rintro ⟨⟨_, h1, h2⟩, _⟩
  have hL := recb_length m l
  by_cases h32 : k < 256
  · rw [flip_left _ _ _ (by omega)] at h1 h2
    have hF : (Crc.flip (recb m l) k).length = 32 := by rw [Crc.flip_length, hL]
    rw [List.take_append_of_le_length (by omega), List.take_of_length_le (by omega)] at h1 h2
    rw [List.drop_append_of_le_length (by omega), List.drop_of_length_le (by omega), List.nil_append] at h2
    by_cases h28 : k < 224
    · have hB := body_length m l
      have e : Crc.flip (recb m l) k = Crc.flip (body m l) k ++ four (nv (Crc.crc (body m l))) := flip_left _ _ _ (by omega)
      have hFB : (Crc.flip (body m l) k).length = 28 := by rw [Crc.flip_length, hB]
      rw [e, List.take_append_of_le_length (by omega), List.take_of_length_le (by omega), show 28 = 28 + 0 from rfl, num_right _ _ _ _ hFB.symm, num_four _ (crc_rng _).1 (crc_rng _).2] at h1
      exact crc_flip_ne _ _ (by omega) (nv_inj h1).symm
    · have hB := body_length m l
      obtain ⟨j, rfl⟩ : ∃ j, k = 224 + j := ⟨k - 224, by omega⟩
      have e : Crc.flip (recb m l) (224 + j) = body m l ++ Crc.flip (four (nv (Crc.crc (body m l)))) j := flip_right _ _ _ _ (by omega)
      rw [e, List.take_append_of_le_length (by omega), List.take_of_length_le (by omega), show 28 = 28 + 0 from rfl, num_right _ _ _ _ hB.symm] at h1
      have hq := num_four _ (crc_rng (body m l)).1 (crc_rng (body m l)).2
      have h1' := h1.trans hq.symm
      have hlt : j < 8 * (four (nv (Crc.crc (body m l)))).length := by rw [four_length]; omega
      have hfl : (Crc.flip (four (nv (Crc.crc (body m l)))) j).length = 4 := by rw [Crc.flip_length, four_length]
      exact flip_at _ _ hlt (bytes_of_num hfl (four_length _) h1')
  · obtain ⟨j, rfl⟩ : ∃ j, k = 256 + j := ⟨k - 256, by omega⟩
    rw [flip_right _ _ _ _ (by omega)] at h2
    rw [List.take_left' hL, List.drop_left' hL, num_rec_24] at h2
    exact crc_flip_ne _ _ (by omega) (nv_inj h2).symm
end Go.Proofs.YtmfkfheakahckaaDoor
