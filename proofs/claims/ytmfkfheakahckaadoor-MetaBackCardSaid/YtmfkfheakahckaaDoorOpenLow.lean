/- What is said of meta.Open, and what its calls give; at most 100000 bytes. -/
import Derived.Test.YtmfkfheakahckaaDoorBytes
import Derived.Test.YtmfkfheakahckaaDoorRef
import Derived.BigRegion
import Derived.Deep.RegionHeld3
import Derived.Deep.RegionWith
import Derived.Deep.RegionLaw
set_option linter.unusedVariables false
namespace Go.Proofs.YtmfkfheakahckaaDoor
open Go.RowKit
/-- the record that bytes say -/
def mOf (b : List (BitVec 8)) (i : Nat) : Int := num b (4 * i)
def Fits (b l : List (BitVec 8)) : Prop := b.length = 32 ∧ num b 28 = nv (Crc.crc (b.take 28)) ∧ num b 24 = nv (Crc.crc l)
def Good (b l : List (BitVec 8)) : Prop := Fits b l ∧ May (mOf b)
instance (b l : List (BitVec 8)) : Decidable (Fits b l) := by unfold Fits; infer_instance
instance (b l : List (BitVec 8)) : Decidable (Good b l) := by unfold Good; infer_instance
def Opened (b l : List (BitVec 8)) (S : Value) (w : World) (e : Ending) (w' : World) : Prop :=
  Below w.heap.size w w' ∧ ((Good b l ∧ e = .returned (.tuple #[rv (mOf b), .nilIface])) ∨ (¬ Good b l ∧ e = .returned (.tuple #[rv (fun _ => 0), S])))
abbrev Bel (w wx : World) : Prop := Below w.heap.size w wx
def NumC (w : World) (x : Int) (e : Ending) (w' : World) : Prop := e = .returned (.int .i64 x) ∧ Bel w w'
theorem get_call {w : World} {a : Option Addr} {cap n i : Nat} {l : List (BitVec 8)} (hn : n = l.length) (hl : n ≤ 100000) (hv : Vw w a cap l) (hi : i + 4 ≤ n) (wx : World) (h : Bel w wx) :
    Calls Tryd.prog 26 #[.slice a n cap, .int .i64 i] wx (NumC w (num l i)) :=
  (get_any a cap n i l wx hn hl (hv.below h (Nat.le_refl _)) hi).mono fun e w' h' => by
    obtain ⟨rfl, k, rfl⟩ := h'
    exact ⟨rfl, below_drewN h k⟩
theorem of_call {w : World} {a : Option Addr} {cap n : Nat} {l : List (BitVec 8)} (hn : n = l.length) (hl : l.length ≤ 100000) (hv : Vw w a cap l) (wx : World) (h : Bel w wx) :
    Calls Tryd.prog 25 #[.slice a n cap] wx (NumC w (nv (Crc.crc l))) :=
  (of_any a cap n l wx hn (hv.below h (Nat.le_refl _)) hl).mono fun e w' h' => ⟨h'.1, h.trans (h'.2.mono h.size)⟩
/-- block b is a record m -/
def Blk (w : World) (b : Nat) (m : Nat → Int) : Prop := w.heap[b]? = some (.cells #[.int .i64 (m 0), .int .i64 (m 1), .int .i64 (m 2), .int .i64 (m 3), .int .i64 (m 4), .int .i64 (m 5)] 23 (0, 0))
theorem Blk.rec {w : World} {b : Nat} {m : Nat → Int} (h : Blk w b m) : Rec w b m := by
  intro i hi
  unfold World.cell?
  rw [show w.heap[(⟨b, i, none⟩ : Addr).block]? = _ from h]
  match i, hi with
  | 0, _ => rfl
  | 1, _ => rfl
  | 2, _ => rfl
  | 3, _ => rfl
  | 4, _ => rfl
  | 5, _ => rfl
theorem Blk.free {w : World} {b : Nat} {m : Nat → Int} (h : Blk w b m) (i : Nat) : w.frozen? ⟨b, i, none⟩ = false := by simp [World.frozen?, show w.heap[b]? = _ from h]
theorem Blk.far {w w' : World} {B b : Nat} {m : Nat → Int} (h : Blk w b m) (g : Below B w w') (hb : b < B) : Blk w' b m := (g.block b hb).trans h
abbrev zobj : Obj := .cells #[.int .i64 0, .int .i64 0, .int .i64 0, .int .i64 0, .int .i64 0, .int .i64 0] 23
def zm : Nat → Int := fun _ => 0
theorem blk_new (w : World) : Blk (w.alloc zobj) w.heap.size zm := heap_alloc_new w _
theorem bel_alloc {w : World} {wx : World} (h : Bel (w.alloc zobj) wx) : Below w.heap.size w wx := ((Below.refl _ w).alloc (Nat.le_refl _) zobj).trans (h.mono (by simp))
end Go.Proofs.YtmfkfheakahckaaDoor
