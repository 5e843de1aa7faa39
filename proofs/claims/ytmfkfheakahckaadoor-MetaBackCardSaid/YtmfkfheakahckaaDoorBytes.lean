/- What meta.Bytes computes; at most 100000 bytes. -/
import Derived.Test.YtmfkfheakahckaaDoorPut
set_option linter.unusedVariables false
namespace Go.Proofs.YtmfkfheakahckaaDoor
open Go.RowKit
theorem Rec.far {w w' : World} {B b : Nat} {m : Nat → Int} (h : Rec w b m) (g : Below B w w') (hb : b < B) : Rec w' b m :=
  fun i hi => by rw [g.cell hb]; exact h i hi
theorem Funs.far {w w' : World} {B b : Nat} (h : Funs w b) (g : Below B w w') (hb : b < B) : Funs w' b :=
  fun i hi => by rw [g.cell hb]; exact h i hi
theorem own_below {w w' : World} {B n : Nat} {v : Value} {xs : List Value} (h : w.ownsRow B 5 1 v n xs) (g : Below w.heap.size w w') : w'.ownsRow B 5 1 v n xs :=
  h.kept (row := none) ⟨g.os, g.tape, g.output, g.size, fun k hk _ => g.block k hk⟩ (by cases hv : v.ownBlock <;> simp)
theorem below_drewN {B : Nat} {a w : World} (h : Below B a w) (n : Nat) : Below B a (w.drewN n) := ⟨h.os, h.tape, h.output, h.size, h.block⟩
/-- the first k numbers' bytes -/
def head (m : Nat → Int) : Nat → List (BitVec 8)
  | 0 => []
  | k + 1 => head m k ++ four (m k)
theorem head_length (m : Nat → Int) (k : Nat) : (head m k).length = 4 * k := by
  induction k with
  | zero => rfl
  | succ k ih => simp only [head, List.length_append, ih]; simp [four]; omega
/-- a record's bytes without the last sum -/
def body (m : Nat → Int) (l : List (BitVec 8)) : List (BitVec 8) := head m 6 ++ four (nv (Crc.crc l))
def recb (m : Nat → Int) (l : List (BitVec 8)) : List (BitVec 8) := body m l ++ four (nv (Crc.crc (body m l)))
theorem body_length (m : Nat → Int) (l : List (BitVec 8)) : (body m l).length = 28 := by simp [body, head_length, four]
theorem recb_length (m : Nat → Int) (l : List (BitVec 8)) : (recb m l).length = 32 := by simp [recb, body_length, four]
/-- the sentinel lies in block 0 -/
def Sent (w : World) (S : Value) : Prop := w.cell? ⟨0, 0, none⟩ = some S ∧ 0 < w.heap.size
theorem Sent.below {w w' : World} {B : Nat} {S : Value} (h : Sent w S) (g : Below B w w') (hB : 0 < B) : Sent w' S := ⟨by rw [g.cell hB]; exact h.1, Nat.lt_of_lt_of_le h.2 g.size⟩
def Bytes (m : Nat → Int) (l : List (BitVec 8)) (S : Value) (w : World) (e : Ending) (w' : World) : Prop :=
  Below w.heap.size w w' ∧ ((May m ∧ ∃ v, e = .returned (.tuple #[v, .nilIface]) ∧ w'.ownsRow w.heap.size 5 1 v 32 (cells (recb m l))) ∨ (¬ May m ∧ e = .returned (.tuple #[.slice none 0 0, S])))
set_option maxHeartbeats 4000000 in
theorem bytes_any (m : Nat → Int) (a : Option Addr) (cap n : Nat) (l : List (BitVec 8)) (S : Value) (w : World) (hn : n = l.length) (hv : Vw w a cap l) (hl : l.length ≤ 100000) (hS : Sent w S) :
    Calls Tryd.prog 9 #[rv m, .slice a n cap] w (Bytes m l S w) := by
  subst hn
  have V := Lib.hid hv
  have HS := Lib.hid hS
  clear hv hS
  go_enter Tryd.func9, Tryd.ntmps9
  go_wp2_with fail
  refine (may_any m _).mono ?_
  rintro e w1 ⟨rfl, hb1⟩
  have hB1 := Lib.hid (((Below.refl w.heap.size w).alloc (Nat.le_refl _) _).trans (hb1.mono (by simp)))
  have hS1 := (HS.out.below hB1.out HS.out.2)
  have R1 := Lib.hid ((rec_new w m 23).below hb1 (Nat.le_refl _))
  have hs1 : w.heap.size < w1.heap.size := Nat.lt_of_lt_of_le (by simp) hb1.size
  clear hb1
  by_cases hm : May m
  · rw [decide_eq_true hm]
    clear hS1
    have c0 := R1.out 0 (by decide)
    have c1 := R1.out 1 (by decide)
    have c2 := R1.out 2 (by decide)
    have c3 := R1.out 3 (by decide)
    have c4 := R1.out 4 (by decide)
    have c5 := R1.out 5 (by decide)
    go_wp2_with fail
    refine (fields_any _).mono ?_
    rintro e w2 ⟨rfl, rfl⟩
    have RB2 := Lib.hid ((rec_new w1 m 49).kept (World.grownBy_alloc _ frow none) (by simp))
    have RF2 := Lib.hid (funs_new (w1.alloc (.cells #[.int .i64 (m 0), .int .i64 (m 1), .int .i64 (m 2), .int .i64 (m 3), .int .i64 (m 4), .int .i64 (m 5)] 49)))
    have hB2 := Lib.hid ((hB1.out.alloc hB1.out.size (.cells #[.int .i64 (m 0), .int .i64 (m 1), .int .i64 (m 2), .int .i64 (m 3), .int .i64 (m 4), .int .i64 (m 5)] 49)).alloc (by simp; omega) frow)
    go_wp2
    go_loopg [6, 19] 6 (fun gk s6 s19 wr => ∃ (k : Nat) (v : Value), k + gk = 6 ∧ s19 = .int .i64 k ∧ s6 = v ∧ wr.ownsRow (w1.heap.size + 1 + 1) 5 1 v (4 * k) (cells (head m k)) ∧ Rec wr w1.heap.size m ∧ Funs wr (w1.heap.size + 1) ∧ Below w.heap.size w wr ∧ w1.heap.size + 1 + 1 ≤ wr.heap.size)
    case atStart => exact ⟨0, _, rfl, rfl, rfl, World.ownsRow_nil _ _ _ _, RB2.out, (by simpa using RF2.out), hB2.out, by simp⟩
    case round =>
      clear RB2 RF2 hB2 c0 c1 c2 c3 c4 c5
      obtain ⟨k, v, hk, rfl, rfl, hO, hRB, hRF, hBL, HZ⟩ := hrel
      have HO := Lib.hid hO
      have RB := Lib.hid hRB
      have RF := Lib.hid hRF
      have HBL := Lib.hid hBL
      clear hO hRB hRF hBL
      obtain rfl | rfl | rfl | rfl | rfl | rfl | rfl : k = 0 ∨ k = 1 ∨ k = 2 ∨ k = 3 ∨ k = 4 ∨ k = 5 ∨ k = 6 := by omega
      · have hc : wr.cell? ⟨w1.heap.size, 0, none⟩ = some (.int .i64 (m 0)) := RB.out 0 (by decide)
        have hf : wr.cell? ⟨w1.heap.size + 1, 0, none⟩ = some (.func (.func 31) #[] #[]) := RF.out 0 (by decide)
        go_wp2_with (first | (go_at_call 31; refine (field0 _ _).mono ?_; rintro e w2 ⟨rfl, rfl⟩) | (go_at_call 24; refine (put_any (w1.heap.size + 1 + 1) _ 0 (head m 0) (m 0) _ HO.out HZ (by decide)).mono ?_; rintro e w3 ⟨v', rfl, ho3, hb3⟩; have HO3 := Lib.hid ho3; have HB3 := Lib.hid hb3; clear ho3 hb3))
        go_roundg (gk - 1)
        case measure => omega
        case rel => exact ⟨1, v', by omega, by go_num, rfl, HO3.out, RB.out.far HB3.out (by omega), RF.out.far HB3.out (by omega), HBL.out.trans (HB3.out.mono (by omega)), Nat.le_trans HZ HB3.out.size⟩
      · have hc : wr.cell? ⟨w1.heap.size, 1, none⟩ = some (.int .i64 (m 1)) := RB.out 1 (by decide)
        have hf : wr.cell? ⟨w1.heap.size + 1, 1, none⟩ = some (.func (.func 32) #[] #[]) := RF.out 1 (by decide)
        go_wp2_with (first | (go_at_call 32; refine (field1 _ _).mono ?_; rintro e w2 ⟨rfl, rfl⟩) | (go_at_call 24; refine (put_any (w1.heap.size + 1 + 1) _ 4 (head m 1) (m 1) _ HO.out HZ (by decide)).mono ?_; rintro e w3 ⟨v', rfl, ho3, hb3⟩; have HO3 := Lib.hid ho3; have HB3 := Lib.hid hb3; clear ho3 hb3))
        go_roundg (gk - 1)
        case measure => omega
        case rel => exact ⟨2, v', by omega, by go_num, rfl, HO3.out, RB.out.far HB3.out (by omega), RF.out.far HB3.out (by omega), HBL.out.trans (HB3.out.mono (by omega)), Nat.le_trans HZ HB3.out.size⟩
      · have hc : wr.cell? ⟨w1.heap.size, 2, none⟩ = some (.int .i64 (m 2)) := RB.out 2 (by decide)
        have hf : wr.cell? ⟨w1.heap.size + 1, 2, none⟩ = some (.func (.func 33) #[] #[]) := RF.out 2 (by decide)
        go_wp2_with (first | (go_at_call 33; refine (field2 _ _).mono ?_; rintro e w2 ⟨rfl, rfl⟩) | (go_at_call 24; refine (put_any (w1.heap.size + 1 + 1) _ 8 (head m 2) (m 2) _ HO.out HZ (by decide)).mono ?_; rintro e w3 ⟨v', rfl, ho3, hb3⟩; have HO3 := Lib.hid ho3; have HB3 := Lib.hid hb3; clear ho3 hb3))
        go_roundg (gk - 1)
        case measure => omega
        case rel => exact ⟨3, v', by omega, by go_num, rfl, HO3.out, RB.out.far HB3.out (by omega), RF.out.far HB3.out (by omega), HBL.out.trans (HB3.out.mono (by omega)), Nat.le_trans HZ HB3.out.size⟩
      · have hc : wr.cell? ⟨w1.heap.size, 3, none⟩ = some (.int .i64 (m 3)) := RB.out 3 (by decide)
        have hf : wr.cell? ⟨w1.heap.size + 1, 3, none⟩ = some (.func (.func 34) #[] #[]) := RF.out 3 (by decide)
        go_wp2_with (first | (go_at_call 34; refine (field3 _ _).mono ?_; rintro e w2 ⟨rfl, rfl⟩) | (go_at_call 24; refine (put_any (w1.heap.size + 1 + 1) _ 12 (head m 3) (m 3) _ HO.out HZ (by decide)).mono ?_; rintro e w3 ⟨v', rfl, ho3, hb3⟩; have HO3 := Lib.hid ho3; have HB3 := Lib.hid hb3; clear ho3 hb3))
        go_roundg (gk - 1)
        case measure => omega
        case rel => exact ⟨4, v', by omega, by go_num, rfl, HO3.out, RB.out.far HB3.out (by omega), RF.out.far HB3.out (by omega), HBL.out.trans (HB3.out.mono (by omega)), Nat.le_trans HZ HB3.out.size⟩
      · have hc : wr.cell? ⟨w1.heap.size, 4, none⟩ = some (.int .i64 (m 4)) := RB.out 4 (by decide)
        have hf : wr.cell? ⟨w1.heap.size + 1, 4, none⟩ = some (.func (.func 35) #[] #[]) := RF.out 4 (by decide)
        go_wp2_with (first | (go_at_call 35; refine (field4 _ _).mono ?_; rintro e w2 ⟨rfl, rfl⟩) | (go_at_call 24; refine (put_any (w1.heap.size + 1 + 1) _ 16 (head m 4) (m 4) _ HO.out HZ (by decide)).mono ?_; rintro e w3 ⟨v', rfl, ho3, hb3⟩; have HO3 := Lib.hid ho3; have HB3 := Lib.hid hb3; clear ho3 hb3))
        go_roundg (gk - 1)
        case measure => omega
        case rel => exact ⟨5, v', by omega, by go_num, rfl, HO3.out, RB.out.far HB3.out (by omega), RF.out.far HB3.out (by omega), HBL.out.trans (HB3.out.mono (by omega)), Nat.le_trans HZ HB3.out.size⟩
      · have hc : wr.cell? ⟨w1.heap.size, 5, none⟩ = some (.int .i64 (m 5)) := RB.out 5 (by decide)
        have hf : wr.cell? ⟨w1.heap.size + 1, 5, none⟩ = some (.func (.func 36) #[] #[]) := RF.out 5 (by decide)
        go_wp2_with (first | (go_at_call 36; refine (field5 _ _).mono ?_; rintro e w2 ⟨rfl, rfl⟩) | (go_at_call 24; refine (put_any (w1.heap.size + 1 + 1) _ 20 (head m 5) (m 5) _ HO.out HZ (by decide)).mono ?_; rintro e w3 ⟨v', rfl, ho3, hb3⟩; have HO3 := Lib.hid ho3; have HB3 := Lib.hid hb3; clear ho3 hb3))
        go_roundg (gk - 1)
        case measure => omega
        case rel => exact ⟨6, v', by omega, by go_num, rfl, HO3.out, RB.out.far HB3.out (by omega), RF.out.far HB3.out (by omega), HBL.out.trans (HB3.out.mono (by omega)), Nat.le_trans HZ HB3.out.size⟩
      · have VR : Hid (Vw wr a cap l) := V.out.below HBL.out (Nat.le_refl _)
        go_wp2_with fail
        refine (of_any a cap _ l wr rfl VR.out hl).mono ?_
        rintro e w2 ⟨rfl, hb2⟩
        have HB2 := Lib.hid hb2
        clear hb2
        have HO2 := Lib.hid (own_below HO.out HB2.out)
        have HZ2 := Nat.le_trans HZ HB2.out.size
        go_wp2_with fail
        refine (put_any (w1.heap.size + 1 + 1) _ 24 (head m 6) _ _ HO2.out HZ2 (by decide)).mono ?_
        rintro e w3 ⟨v3, rfl, ho3, hb3⟩
        have HZ3 := Nat.le_trans HZ2 hb3.size
        obtain ⟨a3, cap3, rfl, hv3, _⟩ := own_shape' ho3 (by decide)
        have HO3 := Lib.hid ho3
        have HB3 := Lib.hid ((HBL.out.trans (HB2.out.mono HBL.out.size)).trans (hb3.mono (by omega)))
        have HV3 := Lib.hid hv3
        clear ho3 hb3 hv3
        go_wp2_with fail
        refine (of_any a3 cap3 28 (body m l) w3 (body_length m l).symm HV3.out (by rw [body_length]; decide)).mono ?_
        rintro e w4 ⟨rfl, hb4⟩
        have HO4 := Lib.hid (own_below HO3.out hb4)
        have HZ4 := Nat.le_trans HZ3 hb4.size
        have HB4 := Lib.hid (HB3.out.trans (hb4.mono (by omega)))
        clear hb4
        go_wp2_with fail
        refine (put_any (w1.heap.size + 1 + 1) _ 28 (body m l) _ _ HO4.out HZ4 (by decide)).mono ?_
        rintro e w5 ⟨v5, rfl, ho5, hb5⟩
        have HO5 := Lib.hid ho5
        have HB5 := Lib.hid (HB4.out.trans (hb5.mono (by omega)))
        clear ho5 hb5
        go_wp2
        go_ret2
        exact ⟨HB5.out, .inl ⟨hm, _, rfl, own_base HO5.out (by omega)⟩⟩
  · rw [decide_eq_false hm]
    have hc := hS1.1
    clear hS1
    go_wp2_with fail
    go_quiet (fail)
    go_wp2
    go_ret2
    exact ⟨below_drewN hB1.out _, .inr ⟨hm, rfl⟩⟩
end Go.Proofs.YtmfkfheakahckaaDoor
