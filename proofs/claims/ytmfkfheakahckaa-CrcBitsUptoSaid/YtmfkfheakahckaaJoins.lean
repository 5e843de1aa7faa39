/- The walk of CrcJoins: it returns true and changes nothing that was there, for any bytes and place; no condition. -/
import Derived.Test.YtmfkfheakahckaaFirst
import Derived.Deep.RegionHeld3
import Derived.Deep.RegionWith
import Derived.Deep.DeepCutAuto
set_option linter.unusedVariables false
namespace Go.Proofs.Ytmfkfheakahckaa
open Go.RowKit

/-- nothing that was there has changed -/
def Bel (w wx : World) : Prop := Below w.heap.size w wx
theorem Bel.later {w wx w' : World} (h : Bel w wx) (g : Below wx.heap.size wx w') : Bel w w' := Below.trans h (g.mono h.size)
def NumC (w : World) (n : Int) (e : Ending) (w' : World) : Prop := e = .returned (.int .i64 n) ∧ Bel w w'
theorem ofc {w wx : World} {a : Option Addr} {cap n : Nat} {l : List (BitVec 8)} {v : Int} (hS : Bel w wx) (hv : Vw w a cap l) (hn : n = l.length) (hl : l.length ≤ 100000) (hr : nv (Crc.crc l) = v) :
    Calls Try.prog 13 #[.slice a n cap] wx (NumC w v) := by
  subst hr
  exact (of_any a cap n l wx hn (hv.below hS (Nat.le_refl _)) hl).mono fun _ _ h => ⟨h.1, hS.later h.2⟩
theorem joinc {w wx : World} {x y : BitVec 32} {X Y N v : Int} {n : Nat} (hS : Bel w wx) (hX : nv x = X) (hY : nv y = Y) (hN : N = (n : Int)) (hn : N ≤ 1048576) (hr : nv (Crc.it (8 * n) x ^^^ y) = v) :
    Calls Try.prog 14 #[.int .i64 X, .int .i64 Y, .int .i64 N] wx (NumC w v) := by
  subst hX hY hN hr
  exact (join_any x y n wx hn).mono fun _ _ h => ⟨h.1, hS.later h.2⟩
/-- Go's way to bring a number within bounds -/
theorem tmod_bd (a : Int) (n : Nat) (hn : 0 < n) : -(n : Int) < a.tmod n ∧ a.tmod n < n := by
  constructor
  · have := Int.lt_tmod_of_pos a (show (0 : Int) < n by omega); simpa using this
  · exact Int.tmod_lt_of_pos a (by omega)
theorem Vw.head {w : World} {a : Option Addr} {cap : Nat} {l : List (BitVec 8)} (h : Vw w a cap l) (k : Nat) (hk : k ≤ l.length) : Vw w (sla a cap 0) cap (l.take k) := by
  have := h.piece 0 k (by omega)
  simpa using this
theorem Vw.tail {w : World} {a : Option Addr} {cap : Nat} {l : List (BitVec 8)} (h : Vw w a cap l) (k : Nat) (hk : k ≤ l.length) : Vw w (sla a cap k) (cap - k) (l.drop k) := by
  have := h.piece k (l.length - k) (by omega)
  rwa [show (l.drop k).take (l.length - k) = l.drop k by rw [List.take_of_length_le (by simp)]] at this
theorem joins_walk (a0 : Option Addr) (cap0 : Nat) (bl : List (BitVec 8)) (at' : Int) (w : World) (hb : Vw w a0 cap0 bl) :
    Calls Try.prog 4 #[.slice a0 bl.length cap0, .int .i64 at'] w fun e w' => e = .returned (.bool true) ∧ Below w.heap.size w w' := by
  have hbl := hb.len
  unfold maxLen at hbl
  have HB := Lib.hid hb
  clear hb
  by_cases hn : 4000 < bl.length
  · have hn' : (4000 : Int) < (bl.length : Int) := by omega
    go_enter Try.func4, Try.ntmps4
    go_wp2_with fail
    refine (first_any _).mono ?_
    rintro e w1 ⟨rfl, hb1⟩
    go_wp2
    go_ret
    exact ⟨rfl, hb1⟩
  · have hl5 : bl.length ≤ 100000 := by omega
    have ht := tmod_bd at' (bl.length + 1) (by omega)
    obtain ⟨ht0, ht1⟩ := ht
    simp only [Int.natCast_add, Int.cast_ofNat_Int] at ht0 ht1
    go_enter Try.func4, Try.ntmps4
    go_wp2_with fail
    refine (first_any _).mono ?_
    rintro e w1 ⟨rfl, hb1⟩
    go_upto_region 5 with (fail)
    obtain ⟨A, eA, hA⟩ : ∃ A : Nat, (at'.tmod ((bl.length : Int) + 1) + (bl.length : Int) + 1) % ((bl.length : Int) + 1) = (A : Int) ∧ A ≤ bl.length := by
      have h0 := Int.emod_nonneg (at'.tmod ((bl.length : Int) + 1) + (bl.length : Int) + 1) (show (bl.length : Int) + 1 ≠ 0 by omega)
      have h1 := Int.emod_lt_of_pos (at'.tmod ((bl.length : Int) + 1) + (bl.length : Int) + 1) (show 0 < (bl.length : Int) + 1 by omega)
      exact ⟨((at'.tmod ((bl.length : Int) + 1) + (bl.length : Int) + 1) % ((bl.length : Int) + 1)).toNat, by omega, by omega⟩
    rw [eA]
    clear eA ht0 ht1
    have hs1 := fun w' => run_head w' a0 bl.length cap0 A (by omega)
    have hs2 := fun w' => run_tail w' a0 bl.length cap0 A hA
    obtain ⟨V, hV⟩ : ∃ V, nv (Crc.crc bl) = V := ⟨_, rfl⟩
    obtain ⟨V1, hV1⟩ : ∃ V, nv (Crc.crc (bl.take A)) = V := ⟨_, rfl⟩
    obtain ⟨V2, hV2⟩ : ∃ V, nv (Crc.crc (bl.drop A)) = V := ⟨_, rfl⟩
    have c1 : ∀ wx, Bel w wx → Calls Try.prog 13 #[.slice (sla a0 cap0 0) A cap0] wx (NumC w V1) := fun wx h => ofc h (HB.out.head A hA) (by simp; omega) (by simp; omega) hV1
    have c2 : ∀ wx, Bel w wx → Calls Try.prog 13 #[.slice (sla a0 cap0 A) (bl.length - A) (cap0 - A)] wx (NumC w V2) := fun wx h => ofc h (HB.out.tail A hA) (by simp) (by simp; omega) hV2
    have c3 : ∀ wx, Bel w wx → Calls Try.prog 13 #[.slice a0 bl.length cap0] wx (NumC w V) := fun wx h => ofc h HB.out rfl hl5 hV
    have c4 : ∀ wx, Bel w wx → Calls Try.prog 14 #[.int .i64 V1, .int .i64 V2, .int .i64 ((bl.length : Int) - (A : Int))] wx (NumC w V) := fun wx h =>
      joinc (n := bl.length - A) h hV1 hV2 (by omega) (by omega) (by
        rw [← hV]
        have e := Crc.crc_append (bl.take A) (bl.drop A)
        rw [List.take_append_drop, List.length_drop] at e
        rw [e])
    have c5 : ∀ wx, Bel w wx → Calls Try.prog 14 #[.int .i64 0, .int .i64 V, .int .i64 (bl.length : Int)] wx (NumC w V) := fun wx h =>
      joinc (x := 0#32) (n := bl.length) h rfl hV rfl (by omega) (by rw [Crc.it_zero, BitVec.zero_xor]; exact hV)
    have C1 := Lib.hid c1
    have C2 := Lib.hid c2
    have C3 := Lib.hid c3
    have C4 := Lib.hid c4
    have C5 := Lib.hid c5
    have D0 : Bel w w1.drew := hb1.drew
    clear c1 c2 c3 c4 c5 hV hV1 hV2 hb1
    have hw : IntKind.i64.wrap ((bl.length : Int) - (A : Int)) = (bl.length : Int) - (A : Int) := IntWalk.i64_in _ (by omega)
    go_region_held3 (fun _ => True) (trivial)
      (first
        | (go_at_call 13; (with_reducible refine (C1.out _ D0).mono ?_); rintro e w2 ⟨rfl, D1⟩; clear D0)
        | (go_at_call 13; (with_reducible refine (C2.out _ D1).mono ?_); rintro e w3 ⟨rfl, D2⟩; clear D1)
        | (go_at_call 14; (with_reducible refine (C4.out _ D2).mono ?_); rintro e w4 ⟨rfl, D3⟩; clear D2)
        | (go_at_call 13; (with_reducible refine (C3.out _ D3).mono ?_); rintro e w5 ⟨rfl, D4⟩; clear D3)
        | (go_at_call 13; (with_reducible refine (C3.out _ D4).mono ?_); rintro e w6 ⟨rfl, D5⟩; clear D4)
        | (go_at_call 14; (with_reducible refine (C5.out _ D5).mono ?_); rintro e w7 ⟨rfl, D6⟩; clear D5)
        | (go_at_call 13; (with_reducible refine (C3.out _ D6).mono ?_); rintro e w8 ⟨rfl, D7⟩; clear D6))
    go_wp2
    go_ret
    exact ⟨rfl, D7⟩
end Go.Proofs.Ytmfkfheakahckaa
