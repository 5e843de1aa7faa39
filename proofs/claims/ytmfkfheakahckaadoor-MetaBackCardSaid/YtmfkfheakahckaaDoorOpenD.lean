/- meta.Open, at bytes that fit: the record, if it may be. -/
import Derived.Test.YtmfkfheakahckaaDoorOpenLow
set_option linter.unusedVariables false
namespace Go.Proofs.YtmfkfheakahckaaDoor
open Go.RowKit
/-- block b is a record m of the inner type -/
def Blk9 (w : World) (b : Nat) (m : Nat → Int) : Prop := w.heap[b]? = some (.cells #[.int .i64 (m 0), .int .i64 (m 1), .int .i64 (m 2), .int .i64 (m 3), .int .i64 (m 4), .int .i64 (m 5)] 49 (0, 0))
theorem Blk9.rec {w : World} {b : Nat} {m : Nat → Int} (h : Blk9 w b m) : Rec w b m := by
  intro i hi
  unfold World.cell?
  rw [show w.heap[(⟨b, i, none⟩ : Addr).block]? = _ from h]
  match i, hi with
  | 0, _ => rfl
  | 1, _ => rfl
  | 2, _ => rfl
  | 3, _ => rfl
  | 4, _ => rfl
  | 5, _ => rfl
theorem Blk9.free {w : World} {b : Nat} {m : Nat → Int} (h : Blk9 w b m) (i : Nat) : w.frozen? ⟨b, i, none⟩ = false := by simp [World.frozen?, show w.heap[b]? = _ from h]
theorem Blk9.far {w w' : World} {B b : Nat} {m : Nat → Int} (h : Blk9 w b m) (g : Below B w w') (hb : b < B) : Blk9 w' b m := (g.block b hb).trans h
/-- the first k numbers -/
def part (m : Nat → Int) (k i : Nat) : Int := if i < k then m i else 0
theorem six_setCell {w : World} {b : Nat} {cs : Array Value} {t : TypeId} (h : w.heap[b]? = some (.cells cs t (0, 0))) (k : Nat) (u : Value) : (w.setCell ⟨b, k, none⟩ u).heap[b]? = some (.cells (cs.setIfInBounds k u) t (0, 0)) := by
  have hlt := lt_of_block h
  have h' : w.heap[b] = .cells cs t (0, 0) := by simpa [Array.getElem?_eq_getElem hlt] using h
  show (w.heap.modify b _)[b]? = _
  rw [Array.getElem?_eq_getElem (by simpa using hlt), Array.getElem_modify_self, h']
  rfl
theorem Blk9.set {w : World} {b k : Nat} {m : Nat → Int} (h : Blk9 w b (part m k)) (hk : k < 6) : Blk9 (w.setCell ⟨b, k, none⟩ (.int .i64 (m k))) b (part m (k + 1)) := by
  have := six_setCell h k (.int .i64 (m k))
  match k, hk with
  | 0, _ => exact this
  | 1, _ => exact this
  | 2, _ => exact this
  | 3, _ => exact this
  | 4, _ => exact this
  | 5, _ => exact this
abbrev nobj : Obj := .cells #[.int .i64 0, .int .i64 0, .int .i64 0, .int .i64 0, .int .i64 0, .int .i64 0] 49
theorem blk9_new (w : World) (m : Nat → Int) : Blk9 (w.alloc nobj) w.heap.size (part m 0) := heap_alloc_new w _
def GotR (x : Int) (w : World) (e : Ending) (w' : World) : Prop := e = .returned (.int .i64 x) ∧ ∃ n, w' = w.drewN n
theorem get_call' {w : World} {a : Option Addr} {cap n i : Nat} {l : List (BitVec 8)} (hn : n = l.length) (hl : n ≤ 100000) (hv : Vw w a cap l) (hi : i + 4 ≤ n) (wx : World) (h : Bel w wx) :
    Calls Tryd.prog 26 #[.slice a n cap, .int .i64 i] wx (GotR (num l i) wx) :=
  get_any a cap n i l wx hn hl (hv.below h (Nat.le_refl _)) hi
set_option maxHeartbeats 8000000 in
theorem open_fits (ab a : Option Addr) (capb cap : Nat) (b l : List (BitVec 8)) (S : Value) (w : World) (hb : Vw w ab capb b) (hv : Vw w a cap l) (hl : l.length ≤ 100000) (hS : Sent w S) (h1 : b.length = 32) (hx : num b 28 = nv (Crc.crc (b.take 28))) (hy : num b 24 = nv (Crc.crc l)) :
    Calls Tryd.prog 11 #[.slice ab b.length capb, .slice a l.length cap] w (Opened b l S w) := by
  have B : Hid (Vw (w.alloc zobj) ab capb b) := hb.grown (World.grownBy_alloc _ zobj none) (by simp)
  have V : Hid (Vw (w.alloc zobj) a cap l) := hv.grown (World.grownBy_alloc _ zobj none) (by simp)
  have HS := Lib.hid hS
  clear hb hv hS
  have C1 : Hid (∀ wx, Bel (w.alloc zobj) wx → Calls Tryd.prog 26 #[.slice ab 32 capb, .int .i64 28] wx (NumC (w.alloc zobj) (num b 28))) := fun wx h => get_call h1.symm (by decide) B.out (by decide) wx h
  have C2 : Hid (∀ wx, Bel (w.alloc zobj) wx → Calls Tryd.prog 25 #[.slice ab 28 capb] wx (NumC (w.alloc zobj) (nv (Crc.crc (b.take 28))))) := fun wx h => of_call (by rw [List.length_take]; omega) (by rw [List.length_take]; omega) (B.out.take 28) wx h
  have C3 : Hid (∀ wx, Bel (w.alloc zobj) wx → Calls Tryd.prog 26 #[.slice ab 32 capb, .int .i64 24] wx (NumC (w.alloc zobj) (num b 24))) := fun wx h => get_call h1.symm (by decide) B.out (by decide) wx h
  have C4 : Hid (∀ wx, Bel (w.alloc zobj) wx → Calls Tryd.prog 25 #[.slice a l.length cap] wx (NumC (w.alloc zobj) (nv (Crc.crc l)))) := fun wx h => of_call rfl hl V.out wx h
  have hcap : 28 ≤ capb := by have := B.out.len; omega
  have hcapI : (28 : Int) ≤ (capb : Int) := by omega
  rw [h1]
  obtain ⟨X1, HX1⟩ : ∃ X : Int, Hid (X = num b 28) := ⟨_, rfl⟩
  obtain ⟨X2, HX2⟩ : ∃ X : Int, Hid (X = nv (Crc.crc (b.take 28))) := ⟨_, rfl⟩
  obtain ⟨X3, HX3⟩ : ∃ X : Int, Hid (X = num b 24) := ⟨_, rfl⟩
  obtain ⟨X4, HX4⟩ : ∃ X : Int, Hid (X = nv (Crc.crc l)) := ⟨_, rfl⟩
  rw [← HX1.out] at C1
  rw [← HX2.out] at C2
  rw [← HX3.out] at C3
  rw [← HX4.out] at C4
  have hnot : Hid (¬ (X1 = X2 ∧ X3 = X4) → ¬ Good b l) := fun h g => h (by rw [HX1.out, HX2.out, HX3.out, HX4.out]; exact ⟨g.1.2.1, g.1.2.2⟩)
  have hyes : Hid (Fits b l) := ⟨h1, hx, hy⟩
  have h2 : X1 = X2 := by rw [HX1.out, HX2.out]; exact hx
  have h3 : X3 = X4 := by rw [HX3.out, HX4.out]; exact hy
  have g2 : (X1 != X2) = false := by simp [h2]
  have g3 : (X3 != X4) = false := by simp [h3]
  clear h2 h3 hnot
  go_enter Tryd.func11, Tryd.ntmps11
  go_wp2_with fail
  have D0 : Bel (w.alloc zobj) (w.alloc zobj).drew := (Below.refl _ _).drew
  go_region_held3 (fun _ => True) (trivial)
    (first
      | (go_at_call 26; (with_reducible refine (C1.out _ D0).mono ?_); rintro e w1 ⟨rfl, D1⟩; clear D0)
      | (go_at_call 25; (with_reducible refine (C2.out _ D1).mono ?_); rintro e w2 ⟨rfl, D2⟩; clear D1)
      | (go_at_call 26; (with_reducible refine (C3.out _ D2).mono ?_); rintro e w3 ⟨rfl, D3⟩; clear D2)
      | (go_at_call 25; (with_reducible refine (C4.out _ D3).mono ?_); rintro e w4 ⟨rfl, D4⟩; clear D3))
  have HD4 := Lib.hid D4
  have hsz : w.heap.size < w4.heap.size := Nat.lt_of_lt_of_le (by simp) D4.size
  clear D4 C1 C2 C3 C4 HX1 HX2 HX3 HX4 g2 g3 hx hy
  go_wp2_with fail
  refine (fields_any _).mono ?_
  rintro e w5 ⟨rfl, rfl⟩
  have R0 : Hid (Blk9 ((w4.alloc nobj).alloc frow) w4.heap.size (part (mOf b) 0)) := (blk9_new w4 (mOf b)).far ((Below.refl _ _).alloc (Nat.le_refl _) frow) (by simp)
  have F0 : Hid (Funs ((w4.alloc nobj).alloc frow) (w4.heap.size + 1)) := Lib.hid (by have := funs_new (w4.alloc nobj); simpa using this)
  have HD5 : Hid (Bel (w.alloc zobj) ((w4.alloc nobj).alloc frow)) := (HD4.out.alloc HD4.out.size nobj).alloc (by have := HD4.out.size; simp at this ⊢; omega) frow
  go_wp2
  go_loopg [33] 6 (fun gk s33 wr => ∃ k : Nat, k + gk = 6 ∧ s33 = .int .i64 k ∧ Blk9 wr w4.heap.size (part (mOf b) k) ∧ Funs wr (w4.heap.size + 1) ∧ Bel (w.alloc zobj) wr)
  case atStart => exact ⟨0, rfl, rfl, R0.out, F0.out, HD5.out⟩
  case round =>
    clear R0 F0 HD5
    obtain ⟨k, hk, rfl, hR, hF, hD⟩ := hrel
    have R := Lib.hid hR
    have F := Lib.hid hF
    have D := Lib.hid hD
    clear hR hF hD
    obtain rfl | rfl | rfl | rfl | rfl | rfl | rfl : k = 0 ∨ k = 1 ∨ k = 2 ∨ k = 3 ∨ k = 4 ∨ k = 5 ∨ k = 6 := by omega
    · have hf : wr.cell? ⟨w4.heap.size + 1, 0, none⟩ = some (.func (.func 31) #[] #[]) := F.out 0 (by decide)
      have hc : wr.cell? ⟨w4.heap.size, 0, none⟩ = some (.int .i64 0) := R.out.rec 0 (by decide)
      have hz : wr.frozen? ⟨w4.heap.size, 0, none⟩ = false := R.out.free 0
      have C : Hid (∀ wx, Bel (w.alloc zobj) wx → Calls Tryd.prog 26 #[.slice ab 32 capb, .int .i64 0] wx (GotR (mOf b 0) wx)) := fun wx h => get_call' h1.symm (by decide) B.out (by decide) wx h
      go_wp2_with (first
        | (go_at_call 31; (with_reducible refine (field0 _ _).mono ?_); rintro e w6 ⟨rfl, rfl⟩)
        | (go_at_call 26; (with_reducible refine (C.out _ D.out).mono ?_); rintro e w6 ⟨rfl, nk, rfl⟩))
      go_roundg (gk - 1)
      case measure => omega
      case rel => exact ⟨1, by omega, by go_num, Blk9.set (w := wr.drewN nk) R.out (by decide), Funs.kept (w := wr.drewN nk) F.out (gset _ _ _ _) (by simp), (below_drewN D.out nk).setCell (by exact HD4.out.size) _⟩
    · have hf : wr.cell? ⟨w4.heap.size + 1, 1, none⟩ = some (.func (.func 32) #[] #[]) := F.out 1 (by decide)
      have hc : wr.cell? ⟨w4.heap.size, 1, none⟩ = some (.int .i64 0) := R.out.rec 1 (by decide)
      have hz : wr.frozen? ⟨w4.heap.size, 1, none⟩ = false := R.out.free 1
      have C : Hid (∀ wx, Bel (w.alloc zobj) wx → Calls Tryd.prog 26 #[.slice ab 32 capb, .int .i64 4] wx (GotR (mOf b 1) wx)) := fun wx h => get_call' h1.symm (by decide) B.out (by decide) wx h
      go_wp2_with (first
        | (go_at_call 32; (with_reducible refine (field1 _ _).mono ?_); rintro e w6 ⟨rfl, rfl⟩)
        | (go_at_call 26; (with_reducible refine (C.out _ D.out).mono ?_); rintro e w6 ⟨rfl, nk, rfl⟩))
      go_roundg (gk - 1)
      case measure => omega
      case rel => exact ⟨2, by omega, by go_num, Blk9.set (w := wr.drewN nk) R.out (by decide), Funs.kept (w := wr.drewN nk) F.out (gset _ _ _ _) (by simp), (below_drewN D.out nk).setCell (by exact HD4.out.size) _⟩
    · have hf : wr.cell? ⟨w4.heap.size + 1, 2, none⟩ = some (.func (.func 33) #[] #[]) := F.out 2 (by decide)
      have hc : wr.cell? ⟨w4.heap.size, 2, none⟩ = some (.int .i64 0) := R.out.rec 2 (by decide)
      have hz : wr.frozen? ⟨w4.heap.size, 2, none⟩ = false := R.out.free 2
      have C : Hid (∀ wx, Bel (w.alloc zobj) wx → Calls Tryd.prog 26 #[.slice ab 32 capb, .int .i64 8] wx (GotR (mOf b 2) wx)) := fun wx h => get_call' h1.symm (by decide) B.out (by decide) wx h
      go_wp2_with (first
        | (go_at_call 33; (with_reducible refine (field2 _ _).mono ?_); rintro e w6 ⟨rfl, rfl⟩)
        | (go_at_call 26; (with_reducible refine (C.out _ D.out).mono ?_); rintro e w6 ⟨rfl, nk, rfl⟩))
      go_roundg (gk - 1)
      case measure => omega
      case rel => exact ⟨3, by omega, by go_num, Blk9.set (w := wr.drewN nk) R.out (by decide), Funs.kept (w := wr.drewN nk) F.out (gset _ _ _ _) (by simp), (below_drewN D.out nk).setCell (by exact HD4.out.size) _⟩
    · have hf : wr.cell? ⟨w4.heap.size + 1, 3, none⟩ = some (.func (.func 34) #[] #[]) := F.out 3 (by decide)
      have hc : wr.cell? ⟨w4.heap.size, 3, none⟩ = some (.int .i64 0) := R.out.rec 3 (by decide)
      have hz : wr.frozen? ⟨w4.heap.size, 3, none⟩ = false := R.out.free 3
      have C : Hid (∀ wx, Bel (w.alloc zobj) wx → Calls Tryd.prog 26 #[.slice ab 32 capb, .int .i64 12] wx (GotR (mOf b 3) wx)) := fun wx h => get_call' h1.symm (by decide) B.out (by decide) wx h
      go_wp2_with (first
        | (go_at_call 34; (with_reducible refine (field3 _ _).mono ?_); rintro e w6 ⟨rfl, rfl⟩)
        | (go_at_call 26; (with_reducible refine (C.out _ D.out).mono ?_); rintro e w6 ⟨rfl, nk, rfl⟩))
      go_roundg (gk - 1)
      case measure => omega
      case rel => exact ⟨4, by omega, by go_num, Blk9.set (w := wr.drewN nk) R.out (by decide), Funs.kept (w := wr.drewN nk) F.out (gset _ _ _ _) (by simp), (below_drewN D.out nk).setCell (by exact HD4.out.size) _⟩
    · have hf : wr.cell? ⟨w4.heap.size + 1, 4, none⟩ = some (.func (.func 35) #[] #[]) := F.out 4 (by decide)
      have hc : wr.cell? ⟨w4.heap.size, 4, none⟩ = some (.int .i64 0) := R.out.rec 4 (by decide)
      have hz : wr.frozen? ⟨w4.heap.size, 4, none⟩ = false := R.out.free 4
      have C : Hid (∀ wx, Bel (w.alloc zobj) wx → Calls Tryd.prog 26 #[.slice ab 32 capb, .int .i64 16] wx (GotR (mOf b 4) wx)) := fun wx h => get_call' h1.symm (by decide) B.out (by decide) wx h
      go_wp2_with (first
        | (go_at_call 35; (with_reducible refine (field4 _ _).mono ?_); rintro e w6 ⟨rfl, rfl⟩)
        | (go_at_call 26; (with_reducible refine (C.out _ D.out).mono ?_); rintro e w6 ⟨rfl, nk, rfl⟩))
      go_roundg (gk - 1)
      case measure => omega
      case rel => exact ⟨5, by omega, by go_num, Blk9.set (w := wr.drewN nk) R.out (by decide), Funs.kept (w := wr.drewN nk) F.out (gset _ _ _ _) (by simp), (below_drewN D.out nk).setCell (by exact HD4.out.size) _⟩
    · have hf : wr.cell? ⟨w4.heap.size + 1, 5, none⟩ = some (.func (.func 36) #[] #[]) := F.out 5 (by decide)
      have hc : wr.cell? ⟨w4.heap.size, 5, none⟩ = some (.int .i64 0) := R.out.rec 5 (by decide)
      have hz : wr.frozen? ⟨w4.heap.size, 5, none⟩ = false := R.out.free 5
      have C : Hid (∀ wx, Bel (w.alloc zobj) wx → Calls Tryd.prog 26 #[.slice ab 32 capb, .int .i64 20] wx (GotR (mOf b 5) wx)) := fun wx h => get_call' h1.symm (by decide) B.out (by decide) wx h
      go_wp2_with (first
        | (go_at_call 36; (with_reducible refine (field5 _ _).mono ?_); rintro e w6 ⟨rfl, rfl⟩)
        | (go_at_call 26; (with_reducible refine (C.out _ D.out).mono ?_); rintro e w6 ⟨rfl, nk, rfl⟩))
      go_roundg (gk - 1)
      case measure => omega
      case rel => exact ⟨6, by omega, by go_num, Blk9.set (w := wr.drewN nk) R.out (by decide), Funs.kept (w := wr.drewN nk) F.out (gset _ _ _ _) (by simp), (below_drewN D.out nk).setCell (by exact HD4.out.size) _⟩
    · have q0 : wr.cell? ⟨w4.heap.size, 0, none⟩ = some (.int .i64 (mOf b 0)) := R.out.rec 0 (by decide)
      have q1 : wr.cell? ⟨w4.heap.size, 1, none⟩ = some (.int .i64 (mOf b 1)) := R.out.rec 1 (by decide)
      have q2 : wr.cell? ⟨w4.heap.size, 2, none⟩ = some (.int .i64 (mOf b 2)) := R.out.rec 2 (by decide)
      have q3 : wr.cell? ⟨w4.heap.size, 3, none⟩ = some (.int .i64 (mOf b 3)) := R.out.rec 3 (by decide)
      have q4 : wr.cell? ⟨w4.heap.size, 4, none⟩ = some (.int .i64 (mOf b 4)) := R.out.rec 4 (by decide)
      have q5 : wr.cell? ⟨w4.heap.size, 5, none⟩ = some (.int .i64 (mOf b 5)) := R.out.rec 5 (by decide)
      have HR : Hid (Blk9 wr w4.heap.size (mOf b)) := R.out
      go_wp2_with fail
      refine (may_any (mOf b) _).mono ?_
      rintro e w6 ⟨rfl, hb6⟩
      have K6 : Hid (Bel (w.alloc zobj) w6) := D.out.trans (hb6.mono D.out.size)
      have R6 : Hid (Blk9 w6 w4.heap.size (mOf b)) := HR.out.far hb6 (lt_of_block HR.out)
      clear hb6 q0 q1 q2 q3 q4 q5
      have hp := HS.out.2
      have hp0 : ¬ w.heap.size = 0 := by omega
      have hp1 : ¬ 0 = w.heap.size := by omega
      have Z := (blk_new w).far K6.out (by simp)
      have c0 : w6.cell? ⟨w.heap.size, 0, none⟩ = some (.int .i64 0) := Z.rec 0 (by decide)
      have c1 : w6.cell? ⟨w.heap.size, 1, none⟩ = some (.int .i64 0) := Z.rec 1 (by decide)
      have c2 : w6.cell? ⟨w.heap.size, 2, none⟩ = some (.int .i64 0) := Z.rec 2 (by decide)
      have c3 : w6.cell? ⟨w.heap.size, 3, none⟩ = some (.int .i64 0) := Z.rec 3 (by decide)
      have c4 : w6.cell? ⟨w.heap.size, 4, none⟩ = some (.int .i64 0) := Z.rec 4 (by decide)
      have c5 : w6.cell? ⟨w.heap.size, 5, none⟩ = some (.int .i64 0) := Z.rec 5 (by decide)
      have f0 := Z.free 0
      have f1 := Z.free 1
      have f2 := Z.free 2
      have f3 := Z.free 3
      have f4 := Z.free 4
      have f5 := Z.free 5
      clear Z
      by_cases hm : May (mOf b)
      · rw [decide_eq_true hm]
        have q0 : w6.cell? ⟨w4.heap.size, 0, none⟩ = some (.int .i64 (mOf b 0)) := R6.out.rec 0 (by decide)
        have q1 : w6.cell? ⟨w4.heap.size, 1, none⟩ = some (.int .i64 (mOf b 1)) := R6.out.rec 1 (by decide)
        have q2 : w6.cell? ⟨w4.heap.size, 2, none⟩ = some (.int .i64 (mOf b 2)) := R6.out.rec 2 (by decide)
        have q3 : w6.cell? ⟨w4.heap.size, 3, none⟩ = some (.int .i64 (mOf b 3)) := R6.out.rec 3 (by decide)
        have q4 : w6.cell? ⟨w4.heap.size, 4, none⟩ = some (.int .i64 (mOf b 4)) := R6.out.rec 4 (by decide)
        have q5 : w6.cell? ⟨w4.heap.size, 5, none⟩ = some (.int .i64 (mOf b 5)) := R6.out.rec 5 (by decide)
        have hgood : Hid (Good b l) := ⟨hyes.out, hm⟩
        clear hm
        go_wp2
        refine bodyPost_ret (v := .tuple #[rv (mOf b), .nilIface]) (by simp [results, Tryd.results11, go_sem, c0, c1, c2, c3, c4, c5]) rfl ⟨?_, .inl ⟨hgood.out, rfl⟩⟩
        refine Below.setCell ?_ (by exact Nat.le_refl _) _
        refine Below.setCell ?_ (by exact Nat.le_refl _) _
        refine Below.setCell ?_ (by exact Nat.le_refl _) _
        refine Below.setCell ?_ (by exact Nat.le_refl _) _
        refine Below.setCell ?_ (by exact Nat.le_refl _) _
        refine Below.setCell ?_ (by exact Nat.le_refl _) _
        exact bel_alloc K6.out
      · rw [decide_eq_false hm]
        have hc4 : w6.cell? ⟨0, 0, none⟩ = some S := (HS.out.below (bel_alloc K6.out) HS.out.2).1
        have hbad : Hid (¬ Good b l) := fun g => hm g.2
        clear hm
        go_wp2_with fail
        go_region
        go_wp2
        refine bodyPost_ret (v := .tuple #[rv (fun _ => 0), S]) (by simp [results, Tryd.results11, go_sem, c0, c1, c2, c3, c4, c5]) rfl ⟨?_, .inr ⟨hbad.out, rfl⟩⟩
        refine Below.drew ?_
        refine Below.setCell ?_ (by exact Nat.le_refl _) _
        refine Below.setCell ?_ (by exact Nat.le_refl _) _
        refine Below.setCell ?_ (by exact Nat.le_refl _) _
        refine Below.setCell ?_ (by exact Nat.le_refl _) _
        refine Below.setCell ?_ (by exact Nat.le_refl _) _
        refine Below.setCell ?_ (by exact Nat.le_refl _) _
        exact bel_alloc K6.out
end Go.Proofs.YtmfkfheakahckaaDoor
