/- meta.Open at any bytes; the reference's OpenRecord; SameBytes; at most 100000 bytes. -/
import Derived.Test.YtmfkfheakahckaaDoorOpenA
import Derived.Test.YtmfkfheakahckaaDoorOpenB
import Derived.Test.YtmfkfheakahckaaDoorOpenC
import Derived.Test.YtmfkfheakahckaaDoorOpenD
import Derived.Laws.IdiomStrings
import Derived.Outline
set_option linter.unusedVariables false
namespace Go.Proofs.YtmfkfheakahckaaDoor
open Go.RowKit
theorem open_any (ab a : Option Addr) (capb cap nb n : Nat) (b l : List (BitVec 8)) (S : Value) (w : World) (hnb : nb = b.length) (hn : n = l.length) (hb : Vw w ab capb b) (hv : Vw w a cap l) (hbl : b.length ≤ 100000) (hl : l.length ≤ 100000) (hS : Sent w S) :
    Calls Tryd.prog 11 #[.slice ab nb capb, .slice a n cap] w (Opened b l S w) := by
  subst hnb hn
  by_cases h1 : b.length = 32
  · by_cases hx : num b 28 = nv (Crc.crc (b.take 28))
    · by_cases hy : num b 24 = nv (Crc.crc l)
      · exact open_fits ab a capb cap b l S w hb hv hl hS h1 hx hy
      · exact open_sector ab a capb cap b l S w hb hv hl hS h1 hx hy
    · exact open_sum ab a capb cap b l S w hb hv hl hS h1 hx
  · exact open_len ab a capb cap b l S w hbl hS h1
/-- the bytes of a list as a string -/
def bs (l : List (BitVec 8)) : ByteArray := ⟨(l.map fun c => UInt8.ofNat c.toNat).toArray⟩
theorem run_str {w : World} {a : Option Addr} {cap : Nat} {l : List (BitVec 8)} (h : Vw w a cap l) : (convert 24 9 (.slice a l.length cap)).run Tryd.prog w = .ok (.string (bs l)) w := by
  rcases h with ⟨rfl, rfl, rfl⟩ | ⟨x, rfl, _, _, h⟩
  · show (convert 24 9 (.slice none 0 0)).run Tryd.prog w = .ok (.string (bs [])) w
    rw [run_convert_bytes_string w 24 9 5 none 0 0 Tryd.underlying24 Tryd.underlying5 Tryd.underlying9]
    simp [Conv.bytesToString]
    rfl
  · have hc := run_convert_bytes_back (P := Tryd.prog) w 24 9 5 x cap (l.map fun c => UInt8.ofNat c.toNat) Tryd.underlying24 Tryd.underlying5 Tryd.underlying9 (fun j hj => by
      rw [List.length_map] at hj
      rw [h j l[j] (List.getElem?_eq_getElem hj)]
      have := l[j].isLt
      simp [nv])
    rw [List.length_map] at hc
    exact hc
theorem bs_inj {l r : List (BitVec 8)} (h : bs l = bs r) : l = r := by
  have h1 : (l.map fun c => UInt8.ofNat c.toNat) = (r.map fun c => UInt8.ofNat c.toNat) := by
    have := congrArg (fun b : ByteArray => b.data.toList) h
    simpa [bs] using this
  refine List.map_inj_right (fun x y e => ?_) |>.1 h1
  have := congrArg UInt8.toNat e
  have := x.isLt
  have := y.isLt
  apply BitVec.eq_of_toNat_eq
  simp at *
  omega
theorem bs_beq (l r : List (BitVec 8)) : ((bs l).toList == (bs r).toList) = (l == r) := by
  rw [Bool.eq_iff_iff, beq_iff_eq, beq_iff_eq, ByteArray.toList_eq, ByteArray.toList_eq]
  constructor
  · intro h; apply bs_inj; unfold bs at *; simp at h; simp [h]
  · rintro rfl; rfl
theorem bytes_same_any (a a' : Option Addr) (cap cap' : Nat) (l r : List (BitVec 8)) (w : World) (hl : Vw w a cap l) (hr : Vw w a' cap' r) :
    Calls Tryd.prog 13 #[.slice a l.length cap, .slice a' r.length cap'] w fun e w' => e = .returned (.bool (l == r)) ∧ w = w' := by
  have h1 := run_str hl
  have h2 := run_str hr
  go_enter Tryd.func13, Tryd.ntmps13
  go_wp2
  go_ret
  exact ⟨ret_bool (bs_beq l r), rfl⟩
theorem bytes_same_n (a a' : Option Addr) (cap cap' n m : Nat) (l r : List (BitVec 8)) (w : World) (hn : n = l.length) (hm : m = r.length) (hl : Vw w a cap l) (hr : Vw w a' cap' r) :
    Calls Tryd.prog 13 #[.slice a n cap, .slice a' m cap'] w fun e w' => e = .returned (.bool (l == r)) ∧ w = w' := by
  subst hn hm; exact bytes_same_any a a' cap cap' l r w hl hr
def ROpened (b l : List (BitVec 8)) (w : World) (e : Ending) (w' : World) : Prop :=
  Below w.heap.size w w' ∧ ((Good b l ∧ e = .returned (.tuple #[rv (mOf b), .bool true])) ∨ (¬ Good b l ∧ e = .returned (.tuple #[rv (fun _ => 0), .bool false])))
theorem rnum_q {w : World} {a : Option Addr} {cap n i k : Nat} {l : List (BitVec 8)} (hn : n = l.length) (hl : n ≤ 100000) (hv : Vw w a cap l) (hi : i + 4 ≤ n) :
    Calls Tryd.prog 30 #[.slice a n cap, .int .i64 i] (w.drewN k) fun e w' => e = .returned (.int .i64 (num l i)) ∧ ∃ m, w' = w.drewN m :=
  Calls.quiet_of (rnum_any a cap n i l (w.drewN k) hn hl (hv.drewN k) hi)
theorem rof_q {w : World} {a : Option Addr} {cap n k : Nat} {l : List (BitVec 8)} (hn : n = l.length) (hl : l.length ≤ 100000) (hv : Vw w a cap l) :
    Calls Tryd.prog 29 #[.slice a n cap] (w.drewN k) fun e w' => e = .returned (.int .i64 (nv (Crc.crc l))) ∧ ∃ m, w' = w.drewN m :=
  Calls.quiet_of_same ((rof_any a cap n l (w.drewN k) hn (hv.drewN k) hl).mono fun _ _ h => ⟨h.1, h.2.symm⟩)
theorem rget_call {w : World} {a : Option Addr} {cap n i : Nat} {l : List (BitVec 8)} (hn : n = l.length) (hl : n ≤ 100000) (hv : Vw w a cap l) (hi : i + 4 ≤ n) (wx : World) (h : Bel w wx) :
    Calls Tryd.prog 30 #[.slice a n cap, .int .i64 i] wx (GotR (num l i) wx) :=
  rnum_any a cap n i l wx hn hl (hv.below h (Nat.le_refl _)) hi
set_option maxHeartbeats 4000000 in
theorem ropen_len (ab a : Option Addr) (capb cap : Nat) (b l : List (BitVec 8)) (w : World) (hbl : b.length ≤ 100000) (h1 : b.length ≠ 32) :
    Calls Tryd.prog 18 #[.slice ab b.length capb, .slice a l.length cap] w (ROpened b l w) := by
  have hne : (b.length : Int) ≠ 32 := by omega
  have hnot : Hid (¬ False → ¬ Good b l) := fun _ h => h1 h.1.1
  go_enter Tryd.func18, Tryd.ntmps18
  go_wp2_with fail
  go_quiet (fail)
  generalize hw : ((w.alloc zobj).drewN nq) = w4
  have D4 : Bel (w.alloc zobj) w4 := hw ▸ below_drewN (Below.refl _ _) nq
  clear hw
  have Z := (blk_new w).far D4 (by simp)
  have c0 : w4.cell? ⟨w.heap.size, 0, none⟩ = some (.int .i64 0) := Z.rec 0 (by decide)
  have c1 : w4.cell? ⟨w.heap.size, 1, none⟩ = some (.int .i64 0) := Z.rec 1 (by decide)
  have c2 : w4.cell? ⟨w.heap.size, 2, none⟩ = some (.int .i64 0) := Z.rec 2 (by decide)
  have c3 : w4.cell? ⟨w.heap.size, 3, none⟩ = some (.int .i64 0) := Z.rec 3 (by decide)
  have c4 : w4.cell? ⟨w.heap.size, 4, none⟩ = some (.int .i64 0) := Z.rec 4 (by decide)
  have c5 : w4.cell? ⟨w.heap.size, 5, none⟩ = some (.int .i64 0) := Z.rec 5 (by decide)
  have f0 := Z.free 0
  have f1 := Z.free 1
  have f2 := Z.free 2
  have f3 := Z.free 3
  have f4 := Z.free 4
  have f5 := Z.free 5
  have K4 := Lib.hid (bel_alloc D4)
  clear D4 Z
  go_wp2
  refine bodyPost_ret (v := .tuple #[rv (fun _ => 0), .bool false]) (by simp [results, Tryd.results18, go_sem, c0, c1, c2, c3, c4, c5]) rfl ⟨?_, .inr ⟨hnot.out (fun h => h), rfl⟩⟩
  refine Below.setCell ?_ (by exact Nat.le_refl _) _
  refine Below.setCell ?_ (by exact Nat.le_refl _) _
  refine Below.setCell ?_ (by exact Nat.le_refl _) _
  refine Below.setCell ?_ (by exact Nat.le_refl _) _
  refine Below.setCell ?_ (by exact Nat.le_refl _) _
  refine Below.setCell ?_ (by exact Nat.le_refl _) _
  exact K4.out
set_option maxHeartbeats 4000000 in
theorem ropen_sum (ab a : Option Addr) (capb cap : Nat) (b l : List (BitVec 8)) (w : World) (hb : Vw w ab capb b) (hv : Vw w a cap l) (hl : l.length ≤ 100000) (h1 : b.length = 32) (hx : num b 28 ≠ nv (Crc.crc (b.take 28))) :
    Calls Tryd.prog 18 #[.slice ab b.length capb, .slice a l.length cap] w (ROpened b l w) := by
  have B : Hid (Vw (w.alloc zobj) ab capb b) := hb.grown (World.grownBy_alloc _ zobj none) (by simp)
  have V : Hid (Vw (w.alloc zobj) a cap l) := hv.grown (World.grownBy_alloc _ zobj none) (by simp)
  clear hb hv
  have C1 : Hid (∀ k, Calls Tryd.prog 30 #[.slice ab 32 capb, .int .i64 28] ((w.alloc zobj).drewN k) fun e w' => e = .returned (.int .i64 (num b 28)) ∧ ∃ m, w' = (w.alloc zobj).drewN m) := fun k => rnum_q h1.symm (by decide) B.out (by decide)
  have C2 : Hid (∀ k, Calls Tryd.prog 29 #[.slice ab 28 capb] ((w.alloc zobj).drewN k) fun e w' => e = .returned (.int .i64 (nv (Crc.crc (b.take 28)))) ∧ ∃ m, w' = (w.alloc zobj).drewN m) := fun k => rof_q (by rw [List.length_take]; omega) (by rw [List.length_take]; omega) (B.out.take 28)
  have C3 : Hid (∀ k, Calls Tryd.prog 30 #[.slice ab 32 capb, .int .i64 24] ((w.alloc zobj).drewN k) fun e w' => e = .returned (.int .i64 (num b 24)) ∧ ∃ m, w' = (w.alloc zobj).drewN m) := fun k => rnum_q h1.symm (by decide) B.out (by decide)
  have C4 : Hid (∀ k, Calls Tryd.prog 29 #[.slice a l.length cap] ((w.alloc zobj).drewN k) fun e w' => e = .returned (.int .i64 (nv (Crc.crc l))) ∧ ∃ m, w' = (w.alloc zobj).drewN m) := fun k => rof_q rfl hl V.out
  have hcap : 28 ≤ capb := by have := B.out.len; omega
  have hcapI : (28 : Int) ≤ (capb : Int) := by omega
  rw [h1]
  obtain ⟨X1, HX1⟩ : ∃ X : Int, Hid (X = num b 28) := ⟨_, rfl⟩
  obtain ⟨X2, HX2⟩ : ∃ X : Int, Hid (X = nv (Crc.crc (b.take 28))) := ⟨_, rfl⟩
  obtain ⟨X3, HX3⟩ : ∃ X : Int, Hid (X = num b 24) := ⟨_, rfl⟩
  obtain ⟨X4, HX4⟩ : ∃ X : Int, Hid (X = nv (Crc.crc l)) := ⟨_, rfl⟩
  rw [← HX1.out] at C1
  rw [← HX2.out] at C2
  rw [← HX3.out] at C3
  rw [← HX4.out] at C4
  have hnot : Hid (¬ (X1 = X2 ∧ X3 = X4) → ¬ Good b l) := fun h g => h (by rw [HX1.out, HX2.out, HX3.out, HX4.out]; exact ⟨g.1.2.1, g.1.2.2⟩)
  have h2 : ¬ X1 = X2 := by rw [HX1.out, HX2.out]; exact hx
  have g2 : (X1 != X2) = true := by simp [h2]
  go_enter Tryd.func18, Tryd.ntmps18
  go_wp2_with fail
  go_quiet ((first
    | (go_at_call 30; with_reducible exact C1.out _)
    | (go_at_call 29; with_reducible exact C2.out _)
    | (go_at_call 30; with_reducible exact C3.out _)
    | (go_at_call 29; with_reducible exact C4.out _)))
  generalize hw : ((w.alloc zobj).drewN nq) = w4
  have D4 : Bel (w.alloc zobj) w4 := hw ▸ below_drewN (Below.refl _ _) nq
  clear hw
  have Z := (blk_new w).far D4 (by simp)
  have c0 : w4.cell? ⟨w.heap.size, 0, none⟩ = some (.int .i64 0) := Z.rec 0 (by decide)
  have c1 : w4.cell? ⟨w.heap.size, 1, none⟩ = some (.int .i64 0) := Z.rec 1 (by decide)
  have c2 : w4.cell? ⟨w.heap.size, 2, none⟩ = some (.int .i64 0) := Z.rec 2 (by decide)
  have c3 : w4.cell? ⟨w.heap.size, 3, none⟩ = some (.int .i64 0) := Z.rec 3 (by decide)
  have c4 : w4.cell? ⟨w.heap.size, 4, none⟩ = some (.int .i64 0) := Z.rec 4 (by decide)
  have c5 : w4.cell? ⟨w.heap.size, 5, none⟩ = some (.int .i64 0) := Z.rec 5 (by decide)
  have f0 := Z.free 0
  have f1 := Z.free 1
  have f2 := Z.free 2
  have f3 := Z.free 3
  have f4 := Z.free 4
  have f5 := Z.free 5
  have K4 := Lib.hid (bel_alloc D4)
  clear D4 Z
  go_wp2
  refine bodyPost_ret (v := .tuple #[rv (fun _ => 0), .bool false]) (by simp [results, Tryd.results18, go_sem, c0, c1, c2, c3, c4, c5]) rfl ⟨?_, .inr ⟨hnot.out (fun h => h2 h.1), rfl⟩⟩
  refine Below.setCell ?_ (by exact Nat.le_refl _) _
  refine Below.setCell ?_ (by exact Nat.le_refl _) _
  refine Below.setCell ?_ (by exact Nat.le_refl _) _
  refine Below.setCell ?_ (by exact Nat.le_refl _) _
  refine Below.setCell ?_ (by exact Nat.le_refl _) _
  refine Below.setCell ?_ (by exact Nat.le_refl _) _
  exact K4.out
set_option maxHeartbeats 4000000 in
theorem ropen_sector (ab a : Option Addr) (capb cap : Nat) (b l : List (BitVec 8)) (w : World) (hb : Vw w ab capb b) (hv : Vw w a cap l) (hl : l.length ≤ 100000) (h1 : b.length = 32) (hx : num b 28 = nv (Crc.crc (b.take 28))) (hy : num b 24 ≠ nv (Crc.crc l)) :
    Calls Tryd.prog 18 #[.slice ab b.length capb, .slice a l.length cap] w (ROpened b l w) := by
  have B : Hid (Vw (w.alloc zobj) ab capb b) := hb.grown (World.grownBy_alloc _ zobj none) (by simp)
  have V : Hid (Vw (w.alloc zobj) a cap l) := hv.grown (World.grownBy_alloc _ zobj none) (by simp)
  clear hb hv
  have C1 : Hid (∀ k, Calls Tryd.prog 30 #[.slice ab 32 capb, .int .i64 28] ((w.alloc zobj).drewN k) fun e w' => e = .returned (.int .i64 (num b 28)) ∧ ∃ m, w' = (w.alloc zobj).drewN m) := fun k => rnum_q h1.symm (by decide) B.out (by decide)
  have C2 : Hid (∀ k, Calls Tryd.prog 29 #[.slice ab 28 capb] ((w.alloc zobj).drewN k) fun e w' => e = .returned (.int .i64 (nv (Crc.crc (b.take 28)))) ∧ ∃ m, w' = (w.alloc zobj).drewN m) := fun k => rof_q (by rw [List.length_take]; omega) (by rw [List.length_take]; omega) (B.out.take 28)
  have C3 : Hid (∀ k, Calls Tryd.prog 30 #[.slice ab 32 capb, .int .i64 24] ((w.alloc zobj).drewN k) fun e w' => e = .returned (.int .i64 (num b 24)) ∧ ∃ m, w' = (w.alloc zobj).drewN m) := fun k => rnum_q h1.symm (by decide) B.out (by decide)
  have C4 : Hid (∀ k, Calls Tryd.prog 29 #[.slice a l.length cap] ((w.alloc zobj).drewN k) fun e w' => e = .returned (.int .i64 (nv (Crc.crc l))) ∧ ∃ m, w' = (w.alloc zobj).drewN m) := fun k => rof_q rfl hl V.out
  have hcap : 28 ≤ capb := by have := B.out.len; omega
  have hcapI : (28 : Int) ≤ (capb : Int) := by omega
  rw [h1]
  obtain ⟨X1, HX1⟩ : ∃ X : Int, Hid (X = num b 28) := ⟨_, rfl⟩
  obtain ⟨X2, HX2⟩ : ∃ X : Int, Hid (X = nv (Crc.crc (b.take 28))) := ⟨_, rfl⟩
  obtain ⟨X3, HX3⟩ : ∃ X : Int, Hid (X = num b 24) := ⟨_, rfl⟩
  obtain ⟨X4, HX4⟩ : ∃ X : Int, Hid (X = nv (Crc.crc l)) := ⟨_, rfl⟩
  rw [← HX1.out] at C1
  rw [← HX2.out] at C2
  rw [← HX3.out] at C3
  rw [← HX4.out] at C4
  have hnot : Hid (¬ (X1 = X2 ∧ X3 = X4) → ¬ Good b l) := fun h g => h (by rw [HX1.out, HX2.out, HX3.out, HX4.out]; exact ⟨g.1.2.1, g.1.2.2⟩)
  have h2 : X1 = X2 := by rw [HX1.out, HX2.out]; exact hx
  have h3 : ¬ X3 = X4 := by rw [HX3.out, HX4.out]; exact hy
  have g2 : (X1 != X2) = false := by simp [h2]
  have g3 : (X3 != X4) = true := by simp [h3]
  clear h2
  go_enter Tryd.func18, Tryd.ntmps18
  go_wp2_with fail
  go_quiet ((first
    | (go_at_call 30; with_reducible exact C1.out _)
    | (go_at_call 29; with_reducible exact C2.out _)
    | (go_at_call 30; with_reducible exact C3.out _)
    | (go_at_call 29; with_reducible exact C4.out _)))
  generalize hw : ((w.alloc zobj).drewN nq) = w4
  have D4 : Bel (w.alloc zobj) w4 := hw ▸ below_drewN (Below.refl _ _) nq
  clear hw
  have Z := (blk_new w).far D4 (by simp)
  have c0 : w4.cell? ⟨w.heap.size, 0, none⟩ = some (.int .i64 0) := Z.rec 0 (by decide)
  have c1 : w4.cell? ⟨w.heap.size, 1, none⟩ = some (.int .i64 0) := Z.rec 1 (by decide)
  have c2 : w4.cell? ⟨w.heap.size, 2, none⟩ = some (.int .i64 0) := Z.rec 2 (by decide)
  have c3 : w4.cell? ⟨w.heap.size, 3, none⟩ = some (.int .i64 0) := Z.rec 3 (by decide)
  have c4 : w4.cell? ⟨w.heap.size, 4, none⟩ = some (.int .i64 0) := Z.rec 4 (by decide)
  have c5 : w4.cell? ⟨w.heap.size, 5, none⟩ = some (.int .i64 0) := Z.rec 5 (by decide)
  have f0 := Z.free 0
  have f1 := Z.free 1
  have f2 := Z.free 2
  have f3 := Z.free 3
  have f4 := Z.free 4
  have f5 := Z.free 5
  have K4 := Lib.hid (bel_alloc D4)
  clear D4 Z
  go_wp2
  refine bodyPost_ret (v := .tuple #[rv (fun _ => 0), .bool false]) (by simp [results, Tryd.results18, go_sem, c0, c1, c2, c3, c4, c5]) rfl ⟨?_, .inr ⟨hnot.out (fun h => h3 h.2), rfl⟩⟩
  refine Below.setCell ?_ (by exact Nat.le_refl _) _
  refine Below.setCell ?_ (by exact Nat.le_refl _) _
  refine Below.setCell ?_ (by exact Nat.le_refl _) _
  refine Below.setCell ?_ (by exact Nat.le_refl _) _
  refine Below.setCell ?_ (by exact Nat.le_refl _) _
  refine Below.setCell ?_ (by exact Nat.le_refl _) _
  exact K4.out
set_option maxHeartbeats 8000000 in
theorem ropen_fits (ab a : Option Addr) (capb cap : Nat) (b l : List (BitVec 8)) (w : World) (hb : Vw w ab capb b) (hv : Vw w a cap l) (hl : l.length ≤ 100000) (h1 : b.length = 32) (hx : num b 28 = nv (Crc.crc (b.take 28))) (hy : num b 24 = nv (Crc.crc l)) :
    Calls Tryd.prog 18 #[.slice ab b.length capb, .slice a l.length cap] w (ROpened b l w) := by
  have B : Hid (Vw (w.alloc zobj) ab capb b) := hb.grown (World.grownBy_alloc _ zobj none) (by simp)
  have V : Hid (Vw (w.alloc zobj) a cap l) := hv.grown (World.grownBy_alloc _ zobj none) (by simp)
  clear hb hv
  have C1 : Hid (∀ k, Calls Tryd.prog 30 #[.slice ab 32 capb, .int .i64 28] ((w.alloc zobj).drewN k) fun e w' => e = .returned (.int .i64 (num b 28)) ∧ ∃ m, w' = (w.alloc zobj).drewN m) := fun k => rnum_q h1.symm (by decide) B.out (by decide)
  have C2 : Hid (∀ k, Calls Tryd.prog 29 #[.slice ab 28 capb] ((w.alloc zobj).drewN k) fun e w' => e = .returned (.int .i64 (nv (Crc.crc (b.take 28)))) ∧ ∃ m, w' = (w.alloc zobj).drewN m) := fun k => rof_q (by rw [List.length_take]; omega) (by rw [List.length_take]; omega) (B.out.take 28)
  have C3 : Hid (∀ k, Calls Tryd.prog 30 #[.slice ab 32 capb, .int .i64 24] ((w.alloc zobj).drewN k) fun e w' => e = .returned (.int .i64 (num b 24)) ∧ ∃ m, w' = (w.alloc zobj).drewN m) := fun k => rnum_q h1.symm (by decide) B.out (by decide)
  have C4 : Hid (∀ k, Calls Tryd.prog 29 #[.slice a l.length cap] ((w.alloc zobj).drewN k) fun e w' => e = .returned (.int .i64 (nv (Crc.crc l))) ∧ ∃ m, w' = (w.alloc zobj).drewN m) := fun k => rof_q rfl hl V.out
  have hcap : 28 ≤ capb := by have := B.out.len; omega
  have hcapI : (28 : Int) ≤ (capb : Int) := by omega
  rw [h1]
  obtain ⟨X1, HX1⟩ : ∃ X : Int, Hid (X = num b 28) := ⟨_, rfl⟩
  obtain ⟨X2, HX2⟩ : ∃ X : Int, Hid (X = nv (Crc.crc (b.take 28))) := ⟨_, rfl⟩
  obtain ⟨X3, HX3⟩ : ∃ X : Int, Hid (X = num b 24) := ⟨_, rfl⟩
  obtain ⟨X4, HX4⟩ : ∃ X : Int, Hid (X = nv (Crc.crc l)) := ⟨_, rfl⟩
  rw [← HX1.out] at C1
  rw [← HX2.out] at C2
  rw [← HX3.out] at C3
  rw [← HX4.out] at C4
  have hnot : Hid (¬ (X1 = X2 ∧ X3 = X4) → ¬ Good b l) := fun h g => h (by rw [HX1.out, HX2.out, HX3.out, HX4.out]; exact ⟨g.1.2.1, g.1.2.2⟩)
  have hyes : Hid (Fits b l) := ⟨h1, hx, hy⟩
  have h2 : X1 = X2 := by rw [HX1.out, HX2.out]; exact hx
  have h3 : X3 = X4 := by rw [HX3.out, HX4.out]; exact hy
  have g2 : (X1 != X2) = false := by simp [h2]
  have g3 : (X3 != X4) = false := by simp [h3]
  clear h2 h3 hnot
  go_enter Tryd.func18, Tryd.ntmps18
  go_wp2_with fail
  go_quiet ((first
    | (go_at_call 30; with_reducible exact C1.out _)
    | (go_at_call 29; with_reducible exact C2.out _)
    | (go_at_call 30; with_reducible exact C3.out _)
    | (go_at_call 29; with_reducible exact C4.out _)))
  generalize hw : ((w.alloc zobj).drewN nq) = w4
  have D4 : Bel (w.alloc zobj) w4 := hw ▸ below_drewN (Below.refl _ _) nq
  clear hw
  have HD4 := Lib.hid D4
  have hsz : w.heap.size < w4.heap.size := Nat.lt_of_lt_of_le (by simp) D4.size
  clear D4 C1 C2 C3 C4 HX1 HX2 HX3 HX4 g2 g3 hx hy
  have E0 : Hid (∀ wx, Bel (w.alloc zobj) wx → Calls Tryd.prog 30 #[.slice ab 32 capb, .int .i64 0] wx (GotR (mOf b 0) wx)) := fun wx h => rget_call h1.symm (by decide) B.out (by decide) wx h
  have E1 : Hid (∀ wx, Bel (w.alloc zobj) wx → Calls Tryd.prog 30 #[.slice ab 32 capb, .int .i64 4] wx (GotR (mOf b 1) wx)) := fun wx h => rget_call h1.symm (by decide) B.out (by decide) wx h
  have E2 : Hid (∀ wx, Bel (w.alloc zobj) wx → Calls Tryd.prog 30 #[.slice ab 32 capb, .int .i64 8] wx (GotR (mOf b 2) wx)) := fun wx h => rget_call h1.symm (by decide) B.out (by decide) wx h
  have E3 : Hid (∀ wx, Bel (w.alloc zobj) wx → Calls Tryd.prog 30 #[.slice ab 32 capb, .int .i64 12] wx (GotR (mOf b 3) wx)) := fun wx h => rget_call h1.symm (by decide) B.out (by decide) wx h
  have E4 : Hid (∀ wx, Bel (w.alloc zobj) wx → Calls Tryd.prog 30 #[.slice ab 32 capb, .int .i64 16] wx (GotR (mOf b 4) wx)) := fun wx h => rget_call h1.symm (by decide) B.out (by decide) wx h
  have E5 : Hid (∀ wx, Bel (w.alloc zobj) wx → Calls Tryd.prog 30 #[.slice ab 32 capb, .int .i64 20] wx (GotR (mOf b 5) wx)) := fun wx h => rget_call h1.symm (by decide) B.out (by decide) wx h
  go_wp2_with fail
  (with_reducible refine (E0.out _ HD4.out).mono ?_)
  rintro e wn ⟨rfl, k0, rfl⟩
  go_wp2_with fail
  (with_reducible refine (E1.out _ (below_drewN HD4.out _)).mono ?_)
  rintro e wn ⟨rfl, k1, rfl⟩
  go_wp2_with fail
  (with_reducible refine (E2.out _ (below_drewN HD4.out _)).mono ?_)
  rintro e wn ⟨rfl, k2, rfl⟩
  go_wp2_with fail
  (with_reducible refine (E3.out _ (below_drewN HD4.out _)).mono ?_)
  rintro e wn ⟨rfl, k3, rfl⟩
  go_wp2_with fail
  (with_reducible refine (E4.out _ (below_drewN HD4.out _)).mono ?_)
  rintro e wn ⟨rfl, k4, rfl⟩
  go_wp2_with fail
  (with_reducible refine (E5.out _ (below_drewN HD4.out _)).mono ?_)
  rintro e wn ⟨rfl, k5, rfl⟩
  generalize hw5 : (w4.drewN (k0 + k1 + k2 + k3 + k4)).drewN k5 = w5
  have D5 : Bel (w.alloc zobj) w5 := hw5 ▸ below_drewN (below_drewN HD4.out _) _
  clear hw5
  have HD5 := Lib.hid D5
  clear D5
  go_wp2_with fail
  (refine (rmay_any (mOf b) _).mono ?_)
  rintro e w6 ⟨rfl, hb6⟩
  have R6 := Lib.hid ((rec_new w5 (mOf b) 23).below hb6 (Nat.le_refl _))
  have K6 : Hid (Bel (w.alloc zobj) w6) := (HD5.out.alloc HD5.out.size _).trans (hb6.mono (by have := HD5.out.size; simp at this ⊢; omega))
  have hs6 : w5.heap.size < w6.heap.size := Nat.lt_of_lt_of_le (by simp) hb6.size
  have hs5 : w.heap.size < w5.heap.size := Nat.lt_of_lt_of_le (by simp) HD5.out.size
  clear hb6
  have Z := (blk_new w).far K6.out (by simp)
  have c0 : w6.cell? ⟨w.heap.size, 0, none⟩ = some (.int .i64 0) := Z.rec 0 (by decide)
  have c1 : w6.cell? ⟨w.heap.size, 1, none⟩ = some (.int .i64 0) := Z.rec 1 (by decide)
  have c2 : w6.cell? ⟨w.heap.size, 2, none⟩ = some (.int .i64 0) := Z.rec 2 (by decide)
  have c3 : w6.cell? ⟨w.heap.size, 3, none⟩ = some (.int .i64 0) := Z.rec 3 (by decide)
  have c4 : w6.cell? ⟨w.heap.size, 4, none⟩ = some (.int .i64 0) := Z.rec 4 (by decide)
  have c5 : w6.cell? ⟨w.heap.size, 5, none⟩ = some (.int .i64 0) := Z.rec 5 (by decide)
  have f0 := Z.free 0
  have f1 := Z.free 1
  have f2 := Z.free 2
  have f3 := Z.free 3
  have f4 := Z.free 4
  have f5 := Z.free 5
  clear Z
  by_cases hm : May (mOf b)
  · rw [decide_eq_true hm]
    have q0 : w6.cell? ⟨w5.heap.size, 0, none⟩ = some (.int .i64 (mOf b 0)) := R6.out 0 (by decide)
    have q1 : w6.cell? ⟨w5.heap.size, 1, none⟩ = some (.int .i64 (mOf b 1)) := R6.out 1 (by decide)
    have q2 : w6.cell? ⟨w5.heap.size, 2, none⟩ = some (.int .i64 (mOf b 2)) := R6.out 2 (by decide)
    have q3 : w6.cell? ⟨w5.heap.size, 3, none⟩ = some (.int .i64 (mOf b 3)) := R6.out 3 (by decide)
    have q4 : w6.cell? ⟨w5.heap.size, 4, none⟩ = some (.int .i64 (mOf b 4)) := R6.out 4 (by decide)
    have q5 : w6.cell? ⟨w5.heap.size, 5, none⟩ = some (.int .i64 (mOf b 5)) := R6.out 5 (by decide)
    have hgood : Hid (Good b l) := ⟨hyes.out, hm⟩
    clear hm
    go_wp2
    refine bodyPost_ret (v := .tuple #[rv (mOf b), .bool true]) (by simp [results, Tryd.results18, go_sem, c0, c1, c2, c3, c4, c5]) rfl ⟨?_, .inl ⟨hgood.out, rfl⟩⟩
    refine Below.setCell ?_ (by exact Nat.le_refl _) _
    refine Below.setCell ?_ (by exact Nat.le_refl _) _
    refine Below.setCell ?_ (by exact Nat.le_refl _) _
    refine Below.setCell ?_ (by exact Nat.le_refl _) _
    refine Below.setCell ?_ (by exact Nat.le_refl _) _
    refine Below.setCell ?_ (by exact Nat.le_refl _) _
    exact bel_alloc K6.out
  · rw [decide_eq_false hm]
    have hbad : Hid (¬ Good b l) := fun g => hm g.2
    clear hm
    go_wp2
    refine bodyPost_ret (v := .tuple #[rv (fun _ => 0), .bool false]) (by simp [results, Tryd.results18, go_sem, c0, c1, c2, c3, c4, c5]) rfl ⟨?_, .inr ⟨hbad.out, rfl⟩⟩
    refine Below.setCell ?_ (by exact Nat.le_refl _) _
    refine Below.setCell ?_ (by exact Nat.le_refl _) _
    refine Below.setCell ?_ (by exact Nat.le_refl _) _
    refine Below.setCell ?_ (by exact Nat.le_refl _) _
    refine Below.setCell ?_ (by exact Nat.le_refl _) _
    refine Below.setCell ?_ (by exact Nat.le_refl _) _
    exact bel_alloc K6.out
theorem ropen_any (ab a : Option Addr) (capb cap nb n : Nat) (b l : List (BitVec 8)) (w : World) (hnb : nb = b.length) (hn : n = l.length) (hb : Vw w ab capb b) (hv : Vw w a cap l) (hbl : b.length ≤ 100000) (hl : l.length ≤ 100000) :
    Calls Tryd.prog 18 #[.slice ab nb capb, .slice a n cap] w (ROpened b l w) := by
  subst hnb hn
  by_cases h1 : b.length = 32
  · by_cases hx : num b 28 = nv (Crc.crc (b.take 28))
    · by_cases hy : num b 24 = nv (Crc.crc l)
      · exact ropen_fits ab a capb cap b l w hb hv hl h1 hx hy
      · exact ropen_sector ab a capb cap b l w hb hv hl h1 hx hy
    · exact ropen_sum ab a capb cap b l w hb hv hl h1 hx
  · exact ropen_len ab a capb cap b l w hbl h1
end Go.Proofs.YtmfkfheakahckaaDoor
