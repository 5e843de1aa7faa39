/- What the calls of MetaSays give. -/
import Derived.Test.YtmfkfheakahckaaDoorCut
set_option linter.unusedVariables false
namespace Go.Proofs.YtmfkfheakahckaaDoor
open Go.RowKit
theorem neq_ss (x : Addr) (w : World) : (binOp .neq 27 (sen x) (sen x)).run Tryd.prog w = .ok (.bool false) w := by
  obtain ⟨i, hi, hc⟩ := Option.map_eq_some_iff.1 comp69
  obtain ⟨j, hj, _⟩ := Option.map_eq_some_iff.1 size85
  simp only [binOp]
  simp [Op.equal, Op.maxDepth, run_equalIn_iface_ptr_same w 9998 x Tryd.underlying27 Tryd.underlying69 hi hc hj]
theorem may_t {m : Nat → Int} (h : May m) (w : World) : Calls Tryd.prog 14 #[rv m] w (Gave (.bool true) w) :=
  (may_any m w).mono fun e w' h' => by rw [decide_eq_true h] at h'; exact h'
theorem may_f {m : Nat → Int} (h : ¬ May m) (w : World) : Calls Tryd.prog 14 #[rv m] w (Gave (.bool false) w) :=
  (may_any m w).mono fun e w' h' => by rw [decide_eq_false h] at h'; exact h'
theorem rmay_t {m : Nat → Int} (h : May m) (w : World) : Calls Tryd.prog 16 #[rv m] w (Gave (.bool true) w) :=
  (rmay_any m w).mono fun e w' h' => by rw [decide_eq_true h] at h'; exact h'
theorem rmay_f {m : Nat → Int} (h : ¬ May m) (w : World) : Calls Tryd.prog 16 #[rv m] w (Gave (.bool false) w) :=
  (rmay_any m w).mono fun e w' h' => by rw [decide_eq_false h] at h'; exact h'
def RecV (m : Nat → Int) (l : List (BitVec 8)) (w : World) (e : Ending) (w' : World) : Prop :=
  ∃ a cap, e = .returned (.slice a 32 cap) ∧ Vw w' a cap (recb m l) ∧ Below w.heap.size w w'
theorem record_view {m : Nat → Int} {a : Option Addr} {cap n : Nat} {l : List (BitVec 8)} {w : World} (hn : n = l.length) (hv : Vw w a cap l) (hl : l.length ≤ 100000) :
    Calls Tryd.prog 17 #[rv m, .slice a n cap] w (RecV m l w) :=
  (record_any m a cap n l w hn hv hl).mono fun e w' h => by
    obtain ⟨v, rfl, hO, hb⟩ := h
    obtain ⟨a', cap', rfl, hv', _⟩ := own_shape' hO (by decide)
    exact ⟨a', cap', rfl, hv', hb⟩
theorem ropen_yes {ab a : Option Addr} {capb cap nb n : Nat} {b l : List (BitVec 8)} {w : World} (hg : Good b l) (hnb : nb = b.length) (hn : n = l.length) (hb : Vw w ab capb b) (hv : Vw w a cap l) (hbl : b.length ≤ 100000) (hl : l.length ≤ 100000) :
    Calls Tryd.prog 18 #[.slice ab nb capb, .slice a n cap] w (Gave (.tuple #[rv (mOf b), .bool true]) w) :=
  (ropen_any ab a capb cap nb n b l w hnb hn hb hv hbl hl).mono fun e w' h => by
    obtain ⟨hB, ⟨_, rfl⟩ | ⟨h', _⟩⟩ := h
    · exact ⟨rfl, hB⟩
    · exact absurd hg h'
theorem ropen_no {ab a : Option Addr} {capb cap nb n : Nat} {b l : List (BitVec 8)} {w : World} (hg : ¬ Good b l) (hnb : nb = b.length) (hn : n = l.length) (hb : Vw w ab capb b) (hv : Vw w a cap l) (hbl : b.length ≤ 100000) (hl : l.length ≤ 100000) :
    Calls Tryd.prog 18 #[.slice ab nb capb, .slice a n cap] w (Gave (.tuple #[rv (fun _ => 0), .bool false]) w) :=
  (ropen_any ab a capb cap nb n b l w hnb hn hb hv hbl hl).mono fun e w' h => by
    obtain ⟨hB, ⟨h', _⟩ | ⟨_, rfl⟩⟩ := h
    · exact absurd h' hg
    · exact ⟨rfl, hB⟩
theorem newer_b {m n : Nat → Int} {z : Bool} (h : z = decide (Newer m n)) (w : World) : Calls Tryd.prog 19 #[rv m, rv n] w (Gave (.bool z) w) := by
  subst h; exact newer_any m n w
theorem rnewer_b {m n : Nat → Int} {z : Bool} (h : z = decide (Newer m n)) (w : World) : Calls Tryd.prog 20 #[rv m, rv n] w (Gave (.bool z) w) := by
  subst h; exact rnewer_any m n w
theorem alive_b {m : Nat → Int} {n : Int} {z : Bool} (h : z = decide (m 4 = 0 ∨ m 4 ≤ n)) (w : World) : Calls Tryd.prog 21 #[rv m, .int .i64 n] w (Gave (.bool z) w) := by
  subst h; exact alive_any m n w
theorem ralive_b {m : Nat → Int} {n : Int} {z : Bool} (h : z = decide (m 4 = 0 ∨ m 4 ≤ n)) (w : World) : Calls Tryd.prog 22 #[rv m, .int .i64 n] w (Gave (.bool z) w) := by
  subst h; exact ralive_any m n w
theorem Same.refl (m : Nat → Int) : Same m m := ⟨rfl, rfl, rfl, rfl, rfl, rfl⟩
end Go.Proofs.YtmfkfheakahckaaDoor
