/- What the reference's Record and Zeros compute; at most 100000 bytes. -/
import Derived.Test.YtmfkfheakahckaaDoorMore
set_option linter.unusedVariables false
namespace Go.Proofs.YtmfkfheakahckaaDoor
open Go.RowKit
def PutC (wa : World) (n : Nat) (l : List (BitVec 8)) (x : Int) (e : Ending) (w' : World) : Prop :=
  ∃ v', e = .returned v' ∧ w'.ownsRow wa.heap.size 5 1 v' (n + 4) (cells (l ++ four x)) ∧ Bel wa w'
theorem four_call {wa wx : World} {v : Value} {n : Nat} {l : List (BitVec 8)} (h : Bel wa wx) (ho : wx.ownsRow wa.heap.size 5 1 v n (cells l)) (hn : n ≤ 100000) (x : Int) :
    Calls Tryd.prog 28 #[v, .int .i64 x] wx (PutC wa n l x) :=
  (rfour_any wa.heap.size v n l x wx ho h.size hn).mono fun e w' h' => by
    obtain ⟨v', he, h1, h2⟩ := h'
    exact ⟨v', he, h1, h.trans h2⟩
theorem own_drew {w : World} {B n : Nat} {v : Value} {xs : List Value} (h : w.ownsRow B 5 1 v n xs) : w.drew.ownsRow B 5 1 v n xs := own_below h (Below.refl _ _).drew
def RBytes (m : Nat → Int) (l : List (BitVec 8)) (w : World) (e : Ending) (w' : World) : Prop :=
  ∃ v, e = .returned v ∧ w'.ownsRow w.heap.size 5 1 v 32 (cells (recb m l)) ∧ Below w.heap.size w w'
abbrev mobj (m : Nat → Int) : Obj := .cells #[.int .i64 (m 0), .int .i64 (m 1), .int .i64 (m 2), .int .i64 (m 3), .int .i64 (m 4), .int .i64 (m 5)] 23
set_option maxHeartbeats 4000000 in
theorem record_any (m : Nat → Int) (a : Option Addr) (cap n : Nat) (l : List (BitVec 8)) (w : World) (hn : n = l.length) (hv : Vw w a cap l) (hl : l.length ≤ 100000) :
    Calls Tryd.prog 17 #[rv m, .slice a n cap] w (RBytes m l w) := by
  subst hn
  have V : Hid (Vw (w.alloc (mobj m)) a cap l) := hv.grown (World.grownBy_alloc _ (mobj m) none) (by simp)
  clear hv
  have KD : Hid (∀ wx, Bel (w.alloc (mobj m)) wx → wx.cell? ⟨w.heap.size, 0, none⟩ = some (.int .i64 (m 0)) ∧ wx.cell? ⟨w.heap.size, 1, none⟩ = some (.int .i64 (m 1)) ∧ wx.cell? ⟨w.heap.size, 2, none⟩ = some (.int .i64 (m 2))) := fun wx h => by
    have R := (rec_new w m 23).far h (by simp)
    exact ⟨R 0 (by decide), R 1 (by decide), R 2 (by decide)⟩
  have KE : Hid (∀ wx, Bel (w.alloc (mobj m)) wx → wx.cell? ⟨w.heap.size, 3, none⟩ = some (.int .i64 (m 3)) ∧ wx.cell? ⟨w.heap.size, 4, none⟩ = some (.int .i64 (m 4)) ∧ wx.cell? ⟨w.heap.size, 5, none⟩ = some (.int .i64 (m 5))) := fun wx h => by
    have R := (rec_new w m 23).far h (by simp)
    exact ⟨R 3 (by decide), R 4 (by decide), R 5 (by decide)⟩
  go_enter Tryd.func17, Tryd.ntmps17
  go_wp2_with fail
  have D0 : Bel (w.alloc (mobj m)) (w.alloc (mobj m)).drew := (Below.refl _ _).drew
  have O0 : (w.alloc (mobj m)).drew.ownsRow (w.alloc (mobj m)).heap.size 5 1 (.slice none 0 0) 0 (cells []) := World.ownsRow_nil _ _ _ _
  go_region_held3 (fun wx => wx.cell? ⟨w.heap.size, 0, none⟩ = some (.int .i64 (m 0)) ∧ wx.cell? ⟨w.heap.size, 1, none⟩ = some (.int .i64 (m 1)) ∧ wx.cell? ⟨w.heap.size, 2, none⟩ = some (.int .i64 (m 2))) (exact KD.out _ (by assumption))
    (first
      | (go_at_call 28; (with_reducible refine (four_call D0 O0 (by decide) (m 0)).mono ?_); rintro e w1 ⟨v1, rfl, O1, D1⟩; clear D0 O0)
      | (go_at_call 28; (with_reducible refine (four_call D1 O1 (by decide) (m 1)).mono ?_); rintro e w2 ⟨v2, rfl, O2, D2⟩; clear D1 O1)
      | (go_at_call 28; (with_reducible refine (four_call D2 O2 (by decide) (m 2)).mono ?_); rintro e w3 ⟨v3, rfl, O3, D3⟩; clear D2 O2))
  have D3 : Bel (w.alloc (mobj m)) w3.drew := D3.drew
  have O3 := own_drew O3
  go_wp2_with fail
  go_region_held3 (fun wx => wx.cell? ⟨w.heap.size, 3, none⟩ = some (.int .i64 (m 3)) ∧ wx.cell? ⟨w.heap.size, 4, none⟩ = some (.int .i64 (m 4)) ∧ wx.cell? ⟨w.heap.size, 5, none⟩ = some (.int .i64 (m 5))) (exact KE.out _ (by assumption))
    (first
      | (go_at_call 28; (with_reducible refine (four_call D3 O3 (by decide) (m 3)).mono ?_); rintro e w4 ⟨v4, rfl, O4, D4⟩; clear D3 O3)
      | (go_at_call 28; (with_reducible refine (four_call D4 O4 (by decide) (m 4)).mono ?_); rintro e w5 ⟨v5, rfl, O5, D5⟩; clear D4 O4)
      | (go_at_call 28; (with_reducible refine (four_call D5 O5 (by decide) (m 5)).mono ?_); rintro e w6 ⟨v6, rfl, O6, D6⟩; clear D5 O5))
  have HD := Lib.hid D6
  have HO : Hid (w6.ownsRow (w.alloc (mobj m)).heap.size 5 1 v6 24 (cells (head m 6))) := Lib.hid O6
  clear D6 O6
  go_wp2_with fail
  refine (rof_any a cap _ l w6 rfl (V.out.below HD.out (Nat.le_refl _)) hl).mono ?_
  rintro e w7 ⟨rfl, rfl⟩
  go_wp2_with fail
  refine (four_call HD.out HO.out (by decide) (nv (Crc.crc l))).mono ?_
  rintro e w8 ⟨v8, rfl, O8, D8⟩
  obtain ⟨a8, cap8, rfl, hv8, _⟩ := own_shape' O8 (by decide)
  have HD8 := Lib.hid D8
  have HO8 := Lib.hid O8
  have HV8 := Lib.hid hv8
  clear D8 O8 hv8
  go_wp2_with fail
  refine (rof_any a8 cap8 28 (body m l) w8 (body_length m l).symm HV8.out (by rw [body_length]; decide)).mono ?_
  rintro e w9 ⟨rfl, rfl⟩
  go_wp2_with fail
  refine (four_call (l := body m l) HD8.out HO8.out (by decide) (nv (Crc.crc (body m l)))).mono ?_
  rintro e w9 ⟨v9, rfl, O9, D9⟩
  have HD9 := Lib.hid D9
  have HO9 := Lib.hid O9
  clear D9 O9
  go_wp2
  go_ret
  exact ⟨_, rfl, own_base HO9.out (by simp), ((Below.refl _ _).alloc (Nat.le_refl _) (mobj m)).trans (HD9.out.mono (by simp))⟩
/-- how many of a byte's first k bits are 0 -/
def zk (c : BitVec 8) : Nat → Nat
  | 0 => 0
  | k + 1 => zk c k + if c.getLsbD k then 0 else 1
def zl (l : List (BitVec 8)) : Nat := (l.map fun c => zk c 8).sum
theorem zk_le (c : BitVec 8) (k : Nat) : zk c k ≤ k := by
  induction k with
  | zero => exact Nat.le_refl _
  | succ k ih => unfold zk; split <;> omega
theorem zl_le (l : List (BitVec 8)) : zl l ≤ 8 * l.length := by
  induction l with
  | nil => exact Nat.le_refl _
  | cons c r ih => have := zk_le c 8; simp only [zl, List.map_cons, List.sum_cons, List.length_cons] at *; omega
theorem zl_snoc (l : List (BitVec 8)) (k : Nat) (hk : k < l.length) : zl (l.take (k + 1)) = zl (l.take k) + zk l[k] 8 := by
  rw [List.take_succ_eq_append_getElem hk]; simp only [zl, List.map_append, List.sum_append, List.map_cons, List.map_nil, List.sum_cons, List.sum_nil, Nat.add_zero]
theorem and8 (x y : BitVec 8) : bits .and .u8 (nv x) (nv y) = nv (x &&& y) := by
  show IntKind.u8.wrap ((BitVec.ofInt 8 (nv x) &&& BitVec.ofInt 8 (nv y)).toNat : Int) = _
  rw [ofInt_nv, ofInt_nv]; exact wrap8_nat _ (x &&& y).isLt
theorem and8_one (x : BitVec 8) : bits .and .u8 (nv x) 1 = if x.getLsbD 0 then 1 else 0 := by
  have h1 : (1 : Int) = nv (1#8) := rfl
  rw [h1, and8]
  have e : x &&& 1#8 = if x.getLsbD 0 then 1#8 else 0#8 := by
    apply BitVec.eq_of_getLsbD_eq
    intro i hi
    rw [BitVec.getLsbD_and]
    by_cases h0 : i = 0
    · subst h0; cases x.getLsbD 0 <;> simp
    · cases x.getLsbD 0 <;> simp [h0]
  rw [e]
  cases x.getLsbD 0 <;> rfl
theorem bit_at (x : BitVec 8) (k : Nat) (m : Int) (hm : m = 2 ^ k) : bits .and .u8 (nv x / m) 1 = if x.getLsbD k then 1 else 0 := by
  rw [shr_nv x k m hm, and8_one, BitVec.getLsbD_ushiftRight]; rfl
set_option maxHeartbeats 4000000 in
theorem zeros_any (a : Option Addr) (cap n : Nat) (l : List (BitVec 8)) (w : World) (hn : n = l.length) (hv : Vw w a cap l) (hl : l.length ≤ 100000) :
    Calls Tryd.prog 15 #[.slice a n cap] w fun e w' => e = .returned (.int .i64 (zl l)) ∧ w = w' := by
  subst hn
  have V := Lib.hid hv
  clear hv
  go_enter Tryd.func15, Tryd.ntmps15
  go_wp2
  go_loopg [3, 4] l.length (fun gk s3 s4 wr => ∃ k : Nat, k + gk = l.length ∧ s4 = .int .i64 k ∧ s3 = .int .i64 (zl (l.take k)) ∧ w = wr)
  case atStart => exact ⟨0, by omega, rfl, rfl, rfl⟩
  case round =>
    obtain ⟨k, hk, rfl, rfl, rfl⟩ := hrel
    by_cases hlt : k < l.length
    · obtain ⟨bb, off, rfl, _, hc⟩ := V.out.at0 (by omega)
      have hcell := hc k l[k] (List.getElem?_eq_getElem hlt)
      have hltI : (k : Int) < (l.length : Int) := by omega
      have hz := zl_le (l.take k)
      have hz' : (l.take k).length ≤ 100000 := by rw [List.length_take]; omega
      have hsn := Lib.hid (zl_snoc l k hlt)
      clear hc
      obtain ⟨C, HC⟩ : ∃ C : BitVec 8, Hid (C = l[k]) := ⟨l[k], Lib.hid rfl⟩
      rw [← HC.out] at hcell
      obtain ⟨Z, HZ⟩ : ∃ Z : Nat, Hid (Z = zl (l.take k)) := ⟨zl (l.take k), Lib.hid rfl⟩
      rw [← HZ.out] at hz ⊢
      obtain ⟨ga, rfl⟩ : ∃ g : Nat, g = gk := ⟨_, rfl⟩
      go_wp2
      go_loopg [3, 5] 8 (fun gi s3 s5 wr => ∃ j : Nat, j + gi = 8 ∧ s5 = .int .i64 j ∧ s3 = .int .i64 ((Z + zk C j : Nat) : Int) ∧ w = wr)
      case atStart => exact ⟨0, rfl, rfl, rfl, rfl⟩
      case round =>
        obtain ⟨j, hj, rfl, rfl, rfl⟩ := hrel
        have hzk := zk_le C j
        obtain rfl | rfl | rfl | rfl | rfl | rfl | rfl | rfl | rfl : j = 0 ∨ j = 1 ∨ j = 2 ∨ j = 3 ∨ j = 4 ∨ j = 5 ∨ j = 6 ∨ j = 7 ∨ j = 8 := by omega
        · have h1 : bits .and .u8 (nv C / 1) 1 = if C.getLsbD 0 then 1 else 0 := bit_at C 0 1 rfl
          have hS : Hid (zk C 1 = zk C 0 + if C.getLsbD 0 then 0 else 1) := Lib.hid rfl
          cases hb : C.getLsbD 0
          all_goals
            rw [hb] at h1
            try simp only [Bool.false_eq_true, if_false, if_true, Int.ediv_one] at h1
            go_wp2
            go_roundg (gk - 1)
            case measure => omega
            case rel => exact ⟨1, by omega, by go_num, by rw [hS.out, hb]; go_num, rfl⟩
        · have h1 : bits .and .u8 (nv C / 2) 1 = if C.getLsbD 1 then 1 else 0 := bit_at C 1 2 rfl
          have hS : Hid (zk C 2 = zk C 1 + if C.getLsbD 1 then 0 else 1) := Lib.hid rfl
          cases hb : C.getLsbD 1
          all_goals
            rw [hb] at h1
            try simp only [Bool.false_eq_true, if_false, if_true] at h1
            go_wp2
            go_roundg (gk - 1)
            case measure => omega
            case rel => exact ⟨2, by omega, by go_num, by rw [hS.out, hb]; go_num, rfl⟩
        · have h1 : bits .and .u8 (nv C / 4) 1 = if C.getLsbD 2 then 1 else 0 := bit_at C 2 4 rfl
          have hS : Hid (zk C 3 = zk C 2 + if C.getLsbD 2 then 0 else 1) := Lib.hid rfl
          cases hb : C.getLsbD 2
          all_goals
            rw [hb] at h1
            try simp only [Bool.false_eq_true, if_false, if_true] at h1
            go_wp2
            go_roundg (gk - 1)
            case measure => omega
            case rel => exact ⟨3, by omega, by go_num, by rw [hS.out, hb]; go_num, rfl⟩
        · have h1 : bits .and .u8 (nv C / 8) 1 = if C.getLsbD 3 then 1 else 0 := bit_at C 3 8 rfl
          have hS : Hid (zk C 4 = zk C 3 + if C.getLsbD 3 then 0 else 1) := Lib.hid rfl
          cases hb : C.getLsbD 3
          all_goals
            rw [hb] at h1
            try simp only [Bool.false_eq_true, if_false, if_true] at h1
            go_wp2
            go_roundg (gk - 1)
            case measure => omega
            case rel => exact ⟨4, by omega, by go_num, by rw [hS.out, hb]; go_num, rfl⟩
        · have h1 : bits .and .u8 (nv C / 16) 1 = if C.getLsbD 4 then 1 else 0 := bit_at C 4 16 rfl
          have hS : Hid (zk C 5 = zk C 4 + if C.getLsbD 4 then 0 else 1) := Lib.hid rfl
          cases hb : C.getLsbD 4
          all_goals
            rw [hb] at h1
            try simp only [Bool.false_eq_true, if_false, if_true] at h1
            go_wp2
            go_roundg (gk - 1)
            case measure => omega
            case rel => exact ⟨5, by omega, by go_num, by rw [hS.out, hb]; go_num, rfl⟩
        · have h1 : bits .and .u8 (nv C / 32) 1 = if C.getLsbD 5 then 1 else 0 := bit_at C 5 32 rfl
          have hS : Hid (zk C 6 = zk C 5 + if C.getLsbD 5 then 0 else 1) := Lib.hid rfl
          cases hb : C.getLsbD 5
          all_goals
            rw [hb] at h1
            try simp only [Bool.false_eq_true, if_false, if_true] at h1
            go_wp2
            go_roundg (gk - 1)
            case measure => omega
            case rel => exact ⟨6, by omega, by go_num, by rw [hS.out, hb]; go_num, rfl⟩
        · have h1 : bits .and .u8 (nv C / 64) 1 = if C.getLsbD 6 then 1 else 0 := bit_at C 6 64 rfl
          have hS : Hid (zk C 7 = zk C 6 + if C.getLsbD 6 then 0 else 1) := Lib.hid rfl
          cases hb : C.getLsbD 6
          all_goals
            rw [hb] at h1
            try simp only [Bool.false_eq_true, if_false, if_true] at h1
            go_wp2
            go_roundg (gk - 1)
            case measure => omega
            case rel => exact ⟨7, by omega, by go_num, by rw [hS.out, hb]; go_num, rfl⟩
        · have h1 : bits .and .u8 (nv C / 128) 1 = if C.getLsbD 7 then 1 else 0 := bit_at C 7 128 rfl
          have hS : Hid (zk C 8 = zk C 7 + if C.getLsbD 7 then 0 else 1) := Lib.hid rfl
          cases hb : C.getLsbD 7
          all_goals
            rw [hb] at h1
            try simp only [Bool.false_eq_true, if_false, if_true] at h1
            go_wp2
            go_roundg (gk - 1)
            case measure => omega
            case rel => exact ⟨8, by omega, by go_num, by rw [hS.out, hb]; go_num, rfl⟩
        · go_wp2
          go_roundg (ga - 1)
          case measure => omega
          case rel => exact ⟨k + 1, by omega, by go_num, by rw [hsn.out, ← HC.out, ← HZ.out], rfl⟩
    · obtain rfl : k = l.length := by omega
      rw [List.take_length]
      go_wp2
      go_ret
      exact ⟨rfl, rfl⟩
end Go.Proofs.YtmfkfheakahckaaDoor
