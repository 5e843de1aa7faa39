/- The walk of CrcPieces where there is a cut: it returns true and changes nothing that was there; no condition beside. -/
import Derived.Test.YtmfkfheakahckaaJoins
set_option linter.unusedVariables false
namespace Go.Proofs.Ytmfkfheakahckaa
open Go.RowKit

theorem and127 (a : Int) : ∃ m : Nat, m ≤ 127 ∧ bits .and .i64 a 127 = (m : Int) :=
  ⟨(a % 128).toNat, by omega, by have := and_pow_i64 a 7 (by omega); rw [show (127 : Int) = ((2 ^ 7 - 1 : Nat) : Int) from rfl, this]; simp; omega⟩
theorem Iw.len {w : World} {a : Option Addr} {cap : Nat} {l : List Int} (h : Iw w a cap l) : l.length ≤ cap ∧ cap ≤ maxLen := by
  rcases h with ⟨_, rfl, rfl⟩ | ⟨_, _, h1, h2, _⟩
  · exact ⟨Nat.le_refl _, Nat.zero_le _⟩
  · exact ⟨h1, h2⟩
/-- what holds at the head of the loop over the cuts -/
def PRel (w : World) (sb : Nat) (bl : List (BitVec 8)) (m gk : Nat) (s7 s8 : Value) (wr : World) : Prop :=
  ∃ i A : Nat, i + gk = m ∧ A ≤ bl.length ∧ s8 = .int .i64 i ∧ s7 = .int .i64 A ∧ Sm wr sb (Crc.reg Crc.full (bl.take A)) ∧ Bel w wr
theorem Bel.sum {w wr w' : World} {sb : Nat} (h : Bel w wr) (g : wr.grownBy w' (some sb)) (hB : w.heap.size ≤ sb) : Bel w w' :=
  Below.grown h g (Below.size h) (fun k e => by cases e; exact hB)
theorem reg_more (x : BitVec 32) (bl : List (BitVec 8)) (A k : Nat) : Crc.reg (Crc.reg x (bl.take A)) ((bl.drop A).take k) = Crc.reg x (bl.take (A + k)) := by
  rw [← Crc.reg_append, List.take_add]
theorem Sm.below {w w' : World} {b : Nat} {x : BitVec 32} (h : Sm w b x) (g : Below w.heap.size w w') : Sm w' b x := (g.block b h.lt).trans h
/-- a sum's object and untouched memory -/
def Both (w : World) (sb : Nat) (x : BitVec 32) (wx : World) : Prop := Bel w wx ∧ Sm wx sb x
def BothC (w : World) (sb : Nat) (x : BitVec 32) (n : Int) (e : Ending) (w' : World) : Prop := e = .returned (.int .i64 n) ∧ Both w sb x w'
theorem valuec {w wx : World} {sb : Nat} {x : BitVec 32} {v : Int} (h : Both w sb x wx) (hv : nv (x ^^^ Crc.full) = v) : Calls Try.prog 12 #[.pointer (some ⟨sb, 0, none⟩)] wx (BothC w sb x v) := by
  subst hv
  exact (value_any sb x wx h.2).mono fun _ _ e => ⟨e.1, by rw [← e.2]; exact h⟩
theorem ofb {w wx : World} {sb : Nat} {x : BitVec 32} {a : Option Addr} {cap n : Nat} {l : List (BitVec 8)} {v : Int} (h : Both w sb x wx) (hv : Vw w a cap l) (hn : n = l.length) (hl : l.length ≤ 100000) (hr : nv (Crc.crc l) = v) :
    Calls Try.prog 13 #[.slice a n cap] wx (BothC w sb x v) := by
  subst hr
  exact (of_any a cap n l wx hn (hv.below h.1 (Nat.le_refl _)) hl).mono fun _ _ e => ⟨e.1, h.1.later e.2, h.2.below e.2⟩
theorem elem23 : Try.prog.underlying 23 = some (.slice (Try.prog.elem 23)) := by kernel_rfl
theorem size23 (w : World) : (sizeOf (Try.prog.elem 23)).run Try.prog w = .ok 1 w := by kernel_rfl
theorem run_at (w : World) (a : Option Addr) (b off n cap : Nat) (ha : a = some ⟨b, off, none⟩) (i : Int) (m : Nat) (hi : i = m) (h : m < n) :
    (Instr.indexAt 22 (.slice a n cap) (.int .i64 i)).run Try.prog w = .ok (.pointer (some ⟨b, off + m, none⟩)) w := by
  subst ha hi
  rw [run_indexAt_slice (P := Try.prog) w 22 ⟨b, off, none⟩ n cap .i64 m elem22, size22]
  simp [h, Result.andThen, add_none]
theorem run_at23 (w : World) (a : Option Addr) (b off n cap : Nat) (ha : a = some ⟨b, off, none⟩) (i : Int) (m : Nat) (hi : i = m) (h : m < n) :
    (Instr.indexAt 23 (.slice a n cap) (.int .i64 i)).run Try.prog w = .ok (.pointer (some ⟨b, off + m, none⟩)) w := by
  subst ha hi
  rw [run_indexAt_slice (P := Try.prog) w 23 ⟨b, off, none⟩ n cap .i64 m elem23, size23]
  simp [h, Result.andThen, add_none]
theorem pieces_walk (a0 a1 : Option Addr) (cap0 cap1 : Nat) (bl : List (BitVec 8)) (cs : List Int) (w : World) (hb : Vw w a0 cap0 bl) (hc : Iw w a1 cap1 cs) :
    Calls Try.prog 3 #[.slice a0 bl.length cap0, .slice a1 cs.length cap1] w fun e w' => e = .returned (.bool true) ∧ Below w.heap.size w w' := by
  have hbl := hb.len
  unfold maxLen at hbl
  have hcl : cs.length ≤ 9223372036854775807 := by have := hc.len; unfold maxLen at this; omega
  have HV := Lib.hid hb
  have HC := Lib.hid hc
  clear hb hc
  by_cases hn : 4000 < bl.length
  · have hn' : (4000 : Int) < (bl.length : Int) := by omega
    go_enter Try.func3, Try.ntmps3
    go_wp2_with fail
    refine (first_any _).mono ?_
    rintro e w1 ⟨rfl, hb1⟩
    go_wp2
    go_ret
    exact ⟨rfl, hb1⟩
  by_cases hm : 100 < cs.length
  · go_enter Try.func3, Try.ntmps3
    go_wp2_with fail
    refine (first_any _).mono ?_
    rintro e w1 ⟨rfl, hb1⟩
    go_wp2
    go_ret
    exact ⟨rfl, hb1⟩
  have hl5 : bl.length ≤ 100000 := by omega
  go_enter Try.func3, Try.ntmps3
  go_wp2_with fail
  refine (first_any _).mono ?_
  rintro e w1 ⟨rfl, hb1⟩
  go_wp2_with fail
  refine (new_any _).mono ?_
  rintro e w2 ⟨rfl, hs2, hg2⟩
  obtain ⟨sb, hsbe⟩ : ∃ sb, w1.heap.size = sb := ⟨_, rfl⟩
  have D2 : Hid (Bel w w2) := hb1.grown hg2 hb1.size (by simp)
  have hsb : w.heap.size ≤ sb := by have := hb1.size; omega
  rw [hsbe] at hs2
  have S2 := Lib.hid hs2
  rw [hsbe]
  clear hb1 hg2 hs2 hsbe
  go_wp2_with fail
  go_loopg [7, 8] cs.length (fun gk s7 s8 wr => PRel w sb bl cs.length gk s7 s8 wr)
  case atStart => exact ⟨0, 0, by omega, by omega, rfl, rfl, S2.out, D2.out⟩
  case round =>
    clear S2 D2
    obtain ⟨i, A, hig, hA, rfl, rfl, hs, hd⟩ := hrel
    by_cases hlt : i < cs.length
    · obtain ⟨c, hci⟩ : ∃ c, cs[i]? = some c := ⟨_, List.getElem?_eq_getElem hlt⟩
      obtain ⟨bb, off, hbo, hcell⟩ := (HC.out.below hd (Nat.le_refl _)).at hci
      have hat := fun w' => run_at23 w' a1 bb off cs.length cap1 hbo i i rfl hlt
      obtain ⟨C, hC1, hC2⟩ := and127 c
      have HS := Lib.hid hs
      have HD := Lib.hid hd
      clear hs hd
      go_upto_region 12 with (fail)
      obtain ⟨k, ek, hk⟩ : ∃ k : Nat, (if (bl.length : Int) - (A : Int) < (C : Int) then (bl.length : Int) - (A : Int) else (C : Int)) = (k : Int) ∧ A + k ≤ bl.length := by
        by_cases h : (bl.length : Int) - (A : Int) < (C : Int)
        · exact ⟨bl.length - A, by rw [if_pos h]; omega, by omega⟩
        · exact ⟨C, by rw [if_neg h], by omega⟩
      rw [ek]
      clear ek hcell hC1 hC2 hci hat hbo
      have hw2 : IntKind.i64.wrap ((A : Int) + (k : Int)) = (A : Int) + (k : Int) := IntWalk.i64_in _ (by omega)
      have HW2 := Lib.hid hw2
      clear hw2
      go_upto_if 46 with (fail)
      go_cut [10] (fun s10 wx => Both w sb (Crc.reg Crc.full (bl.take (A + k))) wx)
      case first =>
        by_cases hpar : (i : Int) % 2 ≤ 0
        · have hsl := fun w' => run_piece w' a0 bl.length cap0 A k (by omega)
          have hpl : k = ((bl.drop A).take k).length := by rw [List.length_take, List.length_drop]; omega
          have HPL := Lib.hid hpl
          have VP : Hid (Vw wr (sla a0 cap0 A) (cap0 - A) ((bl.drop A).take k)) := (HV.out.below HD.out (Nat.le_refl _)).piece A k hk
          have NE : Hid (∀ y, sla a0 cap0 A = some y → 0 < ((bl.drop A).take k).length → some y.block ≠ some sb) := fun y e h0 => by
            obtain ⟨b', o', e2, hlt', hh⟩ := (HV.out.piece A k hk).at0 h0
            rw [e2] at e; cases e
            exact ne_of_lt' (by show b' < sb; omega)
          clear hpl
          go_wp2_with (fail)
          refine (write_any sb _ (sla a0 cap0 A) (cap0 - A) k ((bl.drop A).take k) wr HPL.out HS.out VP.out NE.out (by rw [← HPL.out]; omega)).mono ?_
          rintro e w3 ⟨rfl, h1, h2⟩
          have BO : Hid (Both w sb (Crc.reg Crc.full (bl.take (A + k))) w3) := ⟨HD.out.sum h2 hsb, by rw [← reg_more]; exact h1⟩
          clear h1 h2 hsl
          go_wp2_with (fail)
          go_meet
          exact BO.out
        · have hpar2 : ((i : Int) % 2 == 0) = false := by simp; omega
          rw [hpar2]
          clear hpar hpar2
          go_wp2_with (fail)
          go_loopg [10] k (fun gk s10 wx => ∃ j : Nat, j + gk = k ∧ s10 = .int .i64 j ∧ Both w sb (Crc.reg Crc.full (bl.take (A + j))) wx)
          case atStart => exact ⟨0, by omega, rfl, HD.out, HS.out⟩
          case round =>
            obtain ⟨j, hj, rfl, hbo⟩ := hrel
            by_cases hjk : j < k
            · have hAj : A + j < bl.length := by omega
              obtain ⟨b0, o0, ha0, _, hcs⟩ := (HV.out.below hbo.1 (Nat.le_refl _)).at0 (by omega)
              have hat2 := fun w' => run_at w' a0 b0 o0 bl.length cap0 ha0 ((A : Int) + (j : Int)) (A + j) (by omega) hAj
              have hcell := hcs (A + j) bl[A + j] (List.getElem?_eq_getElem hAj)
              have HBO := Lib.hid hbo
              clear ha0 hcs hbo
              go_wp2_with (go_at_call 11; refine (byte_any _ _ _ _ HBO.out.2).mono ?_; rintro e w3 ⟨rfl, h1, h2⟩; have H1 := Lib.hid h1; have H2 := Lib.hid h2; clear h1 h2)
              go_roundg (gk - 1)
              case measure => omega
              case rel => exact ⟨j + 1, by omega, by go_num, HBO.out.1.sum H2.out hsb, by rw [← Nat.add_assoc, reg_snoc _ _ _ hAj]; exact H1.out⟩
            · obtain rfl : j = k := by omega
              go_wp2_with (fail)
              go_meet
              exact hbo
      case rest =>
        have hs1 : ∀ w', (Instr.slice 22 (.slice a0 bl.length cap0) none (some (.int .i64 ((A : Int) + (k : Int)))) none).run Try.prog w' = .ok (.slice (sla a0 cap0 0) (A + k) cap0) w' := fun w' => by
          have := run_head w' a0 bl.length cap0 (A + k) (by omega)
          rwa [Int.natCast_add] at this
        obtain ⟨V, hV⟩ : ∃ V, nv (Crc.crc (bl.take (A + k))) = V := ⟨_, rfl⟩
        have D0 : Both w sb (Crc.reg Crc.full (bl.take (A + k))) wc.drew := ⟨hcut.1.drew, hcut.2⟩
        have C1 : Hid (∀ wx, Both w sb (Crc.reg Crc.full (bl.take (A + k))) wx → Calls Try.prog 12 #[.pointer (some ⟨sb, 0, none⟩)] wx (BothC w sb (Crc.reg Crc.full (bl.take (A + k))) V)) := fun wx h => valuec h hV
        have C2 : Hid (∀ wx, Both w sb (Crc.reg Crc.full (bl.take (A + k))) wx → Calls Try.prog 13 #[.slice (sla a0 cap0 0) (A + k) cap0] wx (BothC w sb (Crc.reg Crc.full (bl.take (A + k))) V)) := fun wx h =>
          ofb h (HV.out.head (A + k) hk) (by simp; omega) (by simp; omega) hV
        clear hcut hV
        go_upto_region 19 with (fail)
        go_region_held3 (fun _ => True) (trivial)
          (first
            | (go_at_call 12; (with_reducible refine (C1.out _ D0).mono ?_); rintro e w4 ⟨rfl, D1⟩; clear D0)
            | (go_at_call 13; (with_reducible refine (C2.out _ D1).mono ?_); rintro e w5 ⟨rfl, D2⟩; clear D1))
        go_wp2
        go_roundg (gk - 1)
        case measure => omega
        case rel => exact ⟨i + 1, A + k, by omega, hk, by go_num, by go_num, D2.2, D2.1⟩
    · have hAl : A ≤ bl.length := hA
      have hsl := fun w' => run_tail w' a0 bl.length cap0 A hAl
      have VT : Hid (Vw w (sla a0 cap0 A) (cap0 - A) (bl.drop A)) := HV.out.tail A hAl
      have NE : Hid (∀ y, sla a0 cap0 A = some y → 0 < (bl.drop A).length → some y.block ≠ some sb) := fun y e h0 => by
        obtain ⟨b', o', e2, hlt', hh⟩ := VT.out.at0 h0
        rw [e2] at e; cases e
        exact ne_of_lt' (by show b' < sb; omega)
      have HS := Lib.hid hs
      have HD := Lib.hid hd
      clear hs hd
      go_wp2_with (fail)
      refine (write_any sb _ (sla a0 cap0 A) (cap0 - A) _ (bl.drop A) wr (by simp) HS.out (VT.out.below HD.out (Nat.le_refl _)) NE.out (by simp; omega)).mono ?_
      rintro e w3 ⟨rfl, h1, h2⟩
      have hreg : Crc.reg (Crc.reg Crc.full (bl.take A)) (bl.drop A) = Crc.reg Crc.full bl := by rw [← Crc.reg_append, List.take_append_drop]
      rw [hreg] at h1
      obtain ⟨V, hV⟩ : ∃ V, nv (Crc.crc bl) = V := ⟨_, rfl⟩
      have B1 : Hid (Both w sb (Crc.reg Crc.full bl) w3) := ⟨HD.out.sum h2 hsb, h1⟩
      have HVV := Lib.hid hV
      clear h1 h2 hreg hsl hV
      go_wp2_with (fail)
      refine (valuec B1.out HVV.out).mono ?_
      rintro e w4 ⟨rfl, hb4⟩
      have B4 := Lib.hid hb4
      clear hb4
      go_wp2_with (fail)
      refine (ofb B4.out HV.out rfl hl5 HVV.out).mono ?_
      rintro e w5 ⟨rfl, hb5⟩
      have B5 := Lib.hid hb5
      clear hb5
      go_wp2
      go_ret
      exact ⟨rfl, B5.out.1⟩
end Go.Proofs.Ytmfkfheakahckaa
