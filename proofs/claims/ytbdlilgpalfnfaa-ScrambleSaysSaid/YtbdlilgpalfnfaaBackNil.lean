/- The walk of ScrambleBack where there is no cut, and for any cuts; no condition. -/
import Derived.Test.YtbdlilgpalfnfaaBack
set_option linter.unusedVariables false
namespace Go.Proofs.Ytbdlilgpalfnfaa
open Go.RowKit

theorem back_nil (seed : Int) (a0 : Option Addr) (a1 : Option Addr) (cap0 cap1 : Nat) (bl : List (BitVec 8)) (cs : List Int) (w : World) (hb : Vw w a0 cap0 bl) (hc : Iw w a1 cap1 cs) (hcl : cs.length ≤ 0) :
    Calls Try.prog 4 #[.int .i64 seed, .slice a0 bl.length cap0, .slice a1 cs.length cap1] w fun e w' => e = .returned (.bool true) ∧ Below w.heap.size w w' := by
  obtain ⟨i0, hi, hz0, hz1, hz2⟩ := info_parts Try.info5
  have hbl := hb.len
  unfold maxLen at hbl
  by_cases hn : 4000 < bl.length
  · have HB := Lib.hid hb
    have HC := Lib.hid hc
    clear hb hc
    have hn' : (4000 : Int) < (bl.length : Int) := by omega
    go_enter Try.func4, Try.ntmps4
    go_wp2_with fail
    refine (first_any _).mono ?_
    rintro e w1 ⟨rfl, hb1⟩
    go_wp2
    go_ret
    exact ⟨rfl, hb1⟩
  have hm : ¬ 100 < cs.length := by omega
  have hl5 : bl.length ≤ 100000 := by omega
  have HV := Lib.hid hb
  have HC := Lib.hid hc
  clear hb hc
  go_enter Try.func4, Try.ntmps4
  go_wp2_with fail
  refine (first_any _).mono ?_
  rintro e w1 ⟨rfl, hb1⟩
  have V1 : Hid (Vw w1 a0 cap0 bl) := HV.out.below hb1 (Nat.le_refl _)
  go_wp2_with fail
  refine (copy_n a0 cap0 _ bl w1 rfl V1.out hl5).mono ?_
  rintro e w2 ⟨vk, rfl, hk, hb2⟩
  obtain ⟨ak, ck, rfl, VK, hak⟩ := own_shape' hk (Nat.zero_le _)
  have V2 : Hid (Vw w2 a0 cap0 bl) := V1.out.below hb2 (Nat.le_refl _)
  have B2 : Hid (Below w.heap.size w w2) := hb1.trans (hb2.mono hb1.size)
  have VK2 := Lib.hid VK
  clear hk hb2 VK hak hb1 V1
  go_wp2_with fail
  refine (mix_n seed a0 cap0 _ bl w2 rfl V2.out hl5).mono ?_
  rintro e w3 ⟨vm, rfl, hm3, hb3⟩
  obtain ⟨am, cm, rfl, VM, ham⟩ := own_shape' hm3 (Nat.zero_le _)
  have V3 : Hid (Vw w3 a0 cap0 bl) := V2.out.below hb3 (Nat.le_refl _)
  have VK3 : Hid (Vw w3 ak ck bl) := VK2.out.below hb3 (Nat.le_refl _)
  have VM3 := Lib.hid VM
  have B3 : Hid (Below w.heap.size w w3) := B2.out.trans (hb3.mono B2.out.size)
  have HAM : Hid (∀ x, am = some x → x.block < w3.heap.size) := fun x e => (ham x e).2
  clear hm3 hb3 VM ham V2 VK2 B2
  go_wp2_with fail
  refine (mix_n seed am cm _ (mx (ini seed) bl) w3 (mx_length _ _).symm VM3.out (by rw [mx_length]; exact hl5)).mono ?_
  rintro e w4 ⟨vy, rfl, hy, hb4⟩
  rw [mx_mx, mx_length] at hy
  obtain ⟨ay, cy, rfl, VY, hay⟩ := own_shape' hy (Nat.zero_le _)
  have V4 : Hid (Vw w4 a0 cap0 bl) := V3.out.below hb4 (Nat.le_refl _)
  have VK4 : Hid (Vw w4 ak ck bl) := VK3.out.below hb4 (Nat.le_refl _)
  have VM4 : Hid (Vw w4 am cm (mx (ini seed) bl)) := VM3.out.below hb4 (Nat.le_refl _)
  have VY4 := Lib.hid VY
  have HAM4 : Hid (∀ x, am = some x → x.block < w4.heap.size) := fun x e => Nat.lt_of_lt_of_le (HAM.out x e) hb4.size
  clear HAM
  have B4 : Hid (Below w.heap.size w w4) := B3.out.trans (hb4.mono B3.out.size)
  clear hy hb4 VY hay V3 VK3 VM3 B3
  go_wp2_with fail
  refine (same_yes ay a0 cy cap0 _ _ bl w4 rfl rfl VY4.out V4.out).mono ?_
  rintro e w4' ⟨rfl, rfl⟩
  go_wp2_with fail
  refine (same_yes a0 ak cap0 ck _ _ bl w4 rfl rfl V4.out VK4.out).mono ?_
  rintro e w4' ⟨rfl, rfl⟩
  clear VY4 VK4
  go_wp2_with fail
  refine (new_reg _ _).mono ?_
  rintro e w5 ⟨rfl, hr5, hg5⟩
  have V5 : Hid (Vw w5 a0 cap0 bl) := V4.out.grown hg5 (by simp)
  have VM5 : Hid (Vw w5 am cm (mx (ini seed) bl)) := VM4.out.grown hg5 (by simp)
  have B5 : Hid (Below w.heap.size w w5) := B4.out.grown hg5 B4.out.size (by simp)
  have C5 : Hid (Iw w5 a1 cap1 cs) := HC.out.below B5.out (Nat.le_refl _)
  have R5 := Lib.hid hr5
  have hsb : w.heap.size ≤ w4.heap.size := B4.out.size
  have hsb5 : w4.heap.size < w5.heap.size := hr5.lt
  clear hr5 hg5 V4 VM4 B4 HC V5
  obtain ⟨sb, hsbe⟩ : ∃ sb, w4.heap.size = sb := ⟨_, rfl⟩
  rw [hsbe] at R5 hsb hsb5 HAM4
  rw [hsbe]
  clear hsbe
  go_wp2_with fail
  go_loopg [11, 12, 13] cs.length (fun gk s11 s12 s13 wr => BackRel (ini seed) w5 sb bl cs.length gk s11 s12 s13 wr)
  case atStart => exact ⟨0, 0, by omega, by omega, rfl, rfl, World.ownsRow_nil _ _ _ _, R5.out, grefl _ _⟩
  case round =>
    obtain ⟨i, A, hig, hA, rfl, rfl, ho, hr, hg⟩ := hrel
    obtain rfl : i = cs.length := by omega
    have hAl : A ≤ bl.length := hA
    have hsl := fun w' => run_tail w' a0 bl.length cap0 A hAl
    have HO := Lib.hid ho
    have HR := Lib.hid hr
    have HG := Lib.hid hg
    clear ho hr hg
    have hpl : bl.length - A = (bl.drop A).length := by rw [List.length_drop]
    have HPL := Lib.hid hpl
    have epl : (bl.drop A).take (bl.length - A) = bl.drop A := by rw [hpl, List.take_length]
    have hpc := (HV.out.below (Below.of_grown' B5.out HG.out hsb) (Nat.le_refl _)).piece A (bl.length - A) (by omega)
    rw [epl] at hpc
    have HPC := Lib.hid hpc
    clear hpl epl hpc
    go_wp2_with (fail)
    refine (mixm_n sb (Scr.it (8 * A) (ini seed)) (sla a0 cap0 A) (cap0 - A) _ (bl.drop A) wr HPL.out HR.out HPC.out (by rw [← HPL.out]; omega)).mono ?_
    rintro e w6 ⟨vx, rfl, hx6, hr6, hg6⟩
    rw [← HPL.out] at hx6
    have HX := Lib.hid hx6
    have hwr : w5.heap.size ≤ wr.heap.size := HG.out.size
    have HO6 := Lib.hid (HO.out.kept hg6 (.inr fun e => by have := (HO.out.lt sb e).1; omega))
    have G6 := Lib.hid (gtrans HG.out hg6)
    have all : Hid (cells (mx (ini seed) (bl.take A)) ++ cells (mx (Scr.it (8 * A) (ini seed)) (bl.drop A)) = cells (mx (ini seed) bl)) := by
      have e := mx_append (ini seed) (bl.take A) (bl.drop A)
      rw [List.take_append_drop, List.length_take, Nat.min_eq_left hAl] at e
      unfold Hid
      rw [← cells_append, e]
    clear hsl HR hr6 hg6
    rcases hx6.2 with ⟨rfl, hk0⟩ | ⟨gx, cx, cur, rfl, hgx, hgx6, hkc, _⟩
    · clear hx6
      have hA2 : A = bl.length := by omega
      subst hA2
      have hO : w6.ownsRow w5.heap.size 5 1 u12 bl.length (cells (mx (ini seed) bl)) := by have := HO6.out; rwa [List.take_length] at this
      obtain ⟨ao, co, rfl, VO, _⟩ := own_shape' hO (Nat.zero_le _)
      have VO6 := Lib.hid VO
      clear VO hO hk0
      go_wp2_with (at_builtin; refine wpList_append_own_none rfl _ _ 25 rfl w5.heap.size 5 i0 1 Try.underlying25 hi _ bl.length _ rfl HO6.out rfl ?_)
      refine (same_yes ao am co cm _ _ (mx (ini seed) bl) w6 (mx_length _ _).symm (mx_length _ _).symm VO6.out (VM5.out.grown G6.out (fun x e => ne_of_lt' (HAM4.out x e)))).mono ?_
      rintro e w7 ⟨rfl, rfl⟩
      go_wp2
      go_ret
      exact ⟨rfl, Below.of_grown' B5.out G6.out hsb⟩
    · have VX6 := Lib.hid (Vw.of_own HX.out).2
      clear hx6
      go_wp2_with (at_builtin; refine wpList_append_own_at _ rfl _ _ 25 rfl w5.heap.size 5 i0 (.int .u8 0) 1 1 Try.underlying25 hi hz0 hz1 hz2 rfl (by decide) _ A _ rfl HO6.out ⟨gx, 0, none⟩ (bl.length - A) cx (cells (mx (Scr.it (8 * A) (ini seed)) (bl.drop A))) rfl ?c1 ?c2 (cells_one _) ?c3 ?c4 ?c5 ?_)
      case c2 =>
        intro j u hu
        rw [cells_get] at hu
        cases hc : (mx (Scr.it (8 * A) (ini seed)) (bl.drop A))[j]? with
        | none => rw [hc] at hu; cases hu
        | some c => rw [hc] at hu; cases hu; rw [add_none, Nat.zero_add]; exact VX6.out.cellAt j c hc
      case c1 => rw [cells_length, mx_length, ← HPL.out]; omega
      case c3 => unfold maxLen; omega
      case c4 => omega
      case c5 => exact G6.out.size
      intro v' w7 ho7 hg7 hnil7 hat7
      rw [all.out] at ho7
      replace ho7 : w7.ownsRow w5.heap.size 5 1 v' bl.length (cells (mx (ini seed) bl)) := by first | exact ho7 | (rw [Nat.add_sub_cancel' hAl] at ho7; exact ho7)
      obtain ⟨ao, co, rfl, VO, _⟩ := own_shape' ho7 (Nat.zero_le _)
      have VO7 := Lib.hid VO
      have G7 := Lib.hid (gfar G6.out hg7 (fun j e => (HO6.out.lt j e).1))
      clear VO ho7 hg7 hnil7 hat7
      go_wp2_with (fail)
      refine (same_yes ao am co cm _ _ (mx (ini seed) bl) w7 (mx_length _ _).symm (mx_length _ _).symm VO7.out (VM5.out.grown G7.out (fun x e => ne_of_lt' (HAM4.out x e)))).mono ?_
      rintro e w8 ⟨rfl, rfl⟩
      go_wp2
      go_ret
      exact ⟨rfl, Below.of_grown' B5.out G7.out hsb⟩
theorem back_walk (seed : Int) (a0 a1 : Option Addr) (cap0 cap1 : Nat) (bl : List (BitVec 8)) (cs : List Int) (w : World) (hb : Vw w a0 cap0 bl) (hc : Iw w a1 cap1 cs) :
    Calls Try.prog 4 #[.int .i64 seed, .slice a0 bl.length cap0, .slice a1 cs.length cap1] w fun e w' => e = .returned (.bool true) ∧ Below w.heap.size w w' := by
  by_cases h0 : cs.length ≤ 0
  · exact back_nil seed a0 a1 cap0 cap1 bl cs w hb hc h0
  · obtain ⟨b, off, rfl, _⟩ := hc.at (List.getElem?_eq_getElem (show 0 < cs.length by omega))
    refine back_some seed a0 b off cap0 cap1 bl cs w hb hc ?_
    rcases hc with ⟨h, _⟩ | ⟨_, _, h1, h2, _⟩
    · cases h
    · unfold maxLen at h2; omega
end Go.Proofs.Ytbdlilgpalfnfaa
