/- What the laws' calls give, each under its condition. -/
import Derived.Test.YtmfkfheakahckaaDoorOrder
import Derived.Test.YtmfkfheakahckaaDoorLaw
set_option linter.unusedVariables false
namespace Go.Proofs.YtmfkfheakahckaaDoor
open Go.RowKit
def GotB (m : Nat → Int) (l : List (BitVec 8)) (w : World) (e : Ending) (w' : World) : Prop :=
  ∃ g cap, e = .returned (.tuple #[.slice (some ⟨g, 0, none⟩) 32 cap, .nilIface]) ∧ 32 ≤ cap ∧ Vw w' (some ⟨g, 0, none⟩) cap (recb m l) ∧ Below w.heap.size w w' ∧ w.heap.size ≤ g ∧ g < w'.heap.size
def Gave (v : Value) (w : World) (e : Ending) (w' : World) : Prop := e = .returned v ∧ Below w.heap.size w w'
theorem bytes_yes {m : Nat → Int} {a : Option Addr} {cap n : Nat} {l : List (BitVec 8)} {S : Value} {w : World} (hm : May m) (hn : n = l.length) (hv : Vw w a cap l) (hl : l.length ≤ 100000) (hS : Sent w S) :
    Calls Tryd.prog 9 #[rv m, .slice a n cap] w (GotB m l w) :=
  (bytes_any m a cap n l S w hn hv hl hS).mono fun e w' h => by
    obtain ⟨hb, ⟨_, v, rfl, hO⟩ | ⟨h', _⟩⟩ := h
    · obtain ⟨g, cap', rfl, hg, hc, hlt⟩ := own_shape hO (by decide)
      exact ⟨g, cap', rfl, hc, (Vw.of_own hO).2, hb, hg, hlt⟩
    · exact absurd hm h'
theorem bytes_no {m : Nat → Int} {a : Option Addr} {cap n : Nat} {l : List (BitVec 8)} {S : Value} {w : World} (hm : ¬ May m) (hn : n = l.length) (hv : Vw w a cap l) (hl : l.length ≤ 100000) (hS : Sent w S) :
    Calls Tryd.prog 9 #[rv m, .slice a n cap] w (Gave (.tuple #[.slice none 0 0, S]) w) :=
  (bytes_any m a cap n l S w hn hv hl hS).mono fun e w' h => by
    obtain ⟨hb, ⟨h', _⟩ | ⟨_, rfl⟩⟩ := h
    · exact absurd h' hm
    · exact ⟨rfl, hb⟩
theorem open_yes {ab a : Option Addr} {capb cap nb n : Nat} {b l : List (BitVec 8)} {S : Value} {w : World} (hg : Good b l) (hnb : nb = b.length) (hn : n = l.length) (hb : Vw w ab capb b) (hv : Vw w a cap l) (hbl : b.length ≤ 100000) (hl : l.length ≤ 100000) (hS : Sent w S) :
    Calls Tryd.prog 11 #[.slice ab nb capb, .slice a n cap] w (Gave (.tuple #[rv (mOf b), .nilIface]) w) :=
  (open_any ab a capb cap nb n b l S w hnb hn hb hv hbl hl hS).mono fun e w' h => by
    obtain ⟨hB, ⟨_, rfl⟩ | ⟨h', _⟩⟩ := h
    · exact ⟨rfl, hB⟩
    · exact absurd hg h'
theorem open_no {ab a : Option Addr} {capb cap nb n : Nat} {b l : List (BitVec 8)} {S : Value} {w : World} (hg : ¬ Good b l) (hnb : nb = b.length) (hn : n = l.length) (hb : Vw w ab capb b) (hv : Vw w a cap l) (hbl : b.length ≤ 100000) (hl : l.length ≤ 100000) (hS : Sent w S) :
    Calls Tryd.prog 11 #[.slice ab nb capb, .slice a n cap] w (Gave (.tuple #[rv (fun _ => 0), S]) w) :=
  (open_any ab a capb cap nb n b l S w hnb hn hb hv hbl hl hS).mono fun e w' h => by
    obtain ⟨hB, ⟨h', _⟩ | ⟨_, rfl⟩⟩ := h
    · exact absurd h' hg
    · exact ⟨rfl, hB⟩
theorem same_t {m n : Nat → Int} (h : Same m n) (w : World) : Calls Tryd.prog 12 #[rv m, rv n] w (Gave (.bool true) w) :=
  (same_any m n w).mono fun e w' h' => by rw [decide_eq_true h] at h'; exact h'
theorem same_f {m n : Nat → Int} (h : ¬ Same m n) (w : World) : Calls Tryd.prog 12 #[rv m, rv n] w (Gave (.bool false) w) :=
  (same_any m n w).mono fun e w' h' => by rw [decide_eq_false h] at h'; exact h'
def Quiet (v : Value) (w : World) (e : Ending) (w' : World) : Prop := e = .returned v ∧ w = w'
theorem bsame_t {a a' : Option Addr} {cap cap' n m : Nat} {l r : List (BitVec 8)} {w : World} (h : l = r) (hn : n = l.length) (hm : m = r.length) (hl : Vw w a cap l) (hr : Vw w a' cap' r) :
    Calls Tryd.prog 13 #[.slice a n cap, .slice a' m cap'] w (Quiet (.bool true) w) :=
  (bytes_same_n a a' cap cap' n m l r w hn hm hl hr).mono fun e w' h' => by rw [beq_iff_eq.2 h] at h'; exact h'
theorem bsame_f {a a' : Option Addr} {cap cap' n m : Nat} {l r : List (BitVec 8)} {w : World} (h : ¬ l = r) (hn : n = l.length) (hm : m = r.length) (hl : Vw w a cap l) (hr : Vw w a' cap' r) :
    Calls Tryd.prog 13 #[.slice a n cap, .slice a' m cap'] w (Quiet (.bool false) w) :=
  (bytes_same_n a a' cap cap' n m l r w hn hm hl hr).mono fun e w' h' => by rw [beq_eq_false_iff_ne.2 h] at h'; exact h'
/-- one record in the call's first block -/
def K1 (w wx : World) (a : Nat → Int) : Prop := Rec wx w.heap.size a ∧ Below w.heap.size w wx ∧ w.heap.size < wx.heap.size
theorem K1.step {w wx w' : World} {a : Nat → Int} (h : K1 w wx a) (g : Below wx.heap.size wx w') : K1 w w' a := by
  obtain ⟨h1, h4, h5⟩ := h
  exact ⟨h1.far g h5, h4.trans (g.mono (by omega)), Nat.lt_of_lt_of_le h5 g.size⟩
theorem K1.new (w : World) (a : Nat → Int) : K1 w (w.alloc (mobj a)) a := ⟨rec_new w a 23, (Below.refl _ _).alloc (Nat.le_refl _) _, by simp⟩
theorem K1.sent {w wx : World} {a : Nat → Int} {S : Value} (k : K1 w wx a) (hS : Sent w S) : Sent wx S := hS.below k.2.1 hS.2
theorem K1.vw {w wx : World} {m : Nat → Int} {a : Option Addr} {cap : Nat} {l : List (BitVec 8)} (k : K1 w wx m) (h : Vw w a cap l) : Vw wx a cap l := h.below k.2.1 (Nat.le_refl _)
/-- two records in the call's first blocks -/
def K2 (w wx : World) (a b : Nat → Int) : Prop := Rec wx w.heap.size a ∧ Rec wx (w.heap.size + 1) b ∧ Below w.heap.size w wx ∧ w.heap.size + 1 < wx.heap.size
theorem K2.step {w wx w' : World} {a b : Nat → Int} (h : K2 w wx a b) (g : Below wx.heap.size wx w') : K2 w w' a b := by
  obtain ⟨h1, h2, h4, h5⟩ := h
  exact ⟨h1.far g (by omega), h2.far g h5, h4.trans (g.mono (by omega)), Nat.lt_of_lt_of_le h5 g.size⟩
theorem K2.new (w : World) (a b : Nat → Int) : K2 w ((w.alloc (mobj a)).alloc (mobj b)) a b := by
  refine ⟨(rec_new w a 23).kept (World.grownBy_alloc _ (mobj b) none) (by simp), ?_, ((Below.refl _ _).alloc (Nat.le_refl _) _).alloc (by simp) _, by simp⟩
  have := rec_new (w.alloc (mobj a)) b 23
  simpa using this
theorem K2.sent {w wx : World} {a b : Nat → Int} {S : Value} (k : K2 w wx a b) (hS : Sent w S) : Sent wx S := hS.below k.2.2.1 hS.2
theorem K2.vw {w wx : World} {m n : Nat → Int} {a : Option Addr} {cap : Nat} {l : List (BitVec 8)} (k : K2 w wx m n) (h : Vw w a cap l) : Vw wx a cap l := h.below k.2.2.1 (Nat.le_refl _)
theorem first_call {w : World} {x : Addr} (hS : Sent w (sen x)) : Calls Tryd.prog 8 #[] w (Gave (.bool true) w) := first_any x w hS
theorem Sent.drewN {w : World} {S : Value} (h : Sent w S) (n : Nat) : Sent (w.drewN n) S := h
theorem sla_some (g cap lo : Nat) (h : lo < cap) : sla (some ⟨g, 0, none⟩) cap lo = some ⟨g, lo, none⟩ := by
  unfold sla
  rw [if_neg (by omega)]
  simp [add_none]
end Go.Proofs.YtmfkfheakahckaaDoor
