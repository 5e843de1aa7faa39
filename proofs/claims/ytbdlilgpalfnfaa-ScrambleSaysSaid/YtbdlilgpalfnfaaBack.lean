/- The walk of ScrambleBack: it returns true and changes nothing that was there, for any number, bytes and cuts; no condition. -/
import Derived.Test.YtbdlilgpalfnfaaApart
import Derived.Deep.LoopGhost
import Derived.Maps.AppendAt
set_option linter.unusedVariables false
namespace Go.Proofs.Ytbdlilgpalfnfaa
open Go.RowKit

/-- a slice of ints (address, capacity) that reads as l -/
def Iw (w : World) (a : Option Addr) (cap : Nat) (l : List Int) : Prop :=
  (a = none ∧ cap = 0 ∧ l = []) ∨ ∃ x, a = some x ∧ l.length ≤ cap ∧ cap ≤ maxLen ∧ ∀ i c, l[i]? = some c → w.cell? (x.add i) = some (.int .i64 c)
theorem Iw.below {w w' : World} {B : Nat} {a : Option Addr} {cap : Nat} {l : List Int} (h : Iw w a cap l) (g : Below B w w') (hB : w.heap.size ≤ B) : Iw w' a cap l := by
  rcases h with h | ⟨x, rfl, h1, h2, h3⟩
  · exact .inl h
  · refine .inr ⟨x, rfl, h1, h2, fun i c hc => ?_⟩
    have h := h3 i c hc
    rw [g.cell (by have := World.block_lt_of_cell? w _ h; omega)]
    exact h
theorem Iw.at {w : World} {a : Option Addr} {cap : Nat} {l : List Int} (h : Iw w a cap l) {i : Nat} {c : Int} (hc : l[i]? = some c) :
    ∃ b off, a = some ⟨b, off, none⟩ ∧ w.cell? ⟨b, off + i, none⟩ = some (.int .i64 c) := by
  rcases h with ⟨_, _, rfl⟩ | ⟨⟨b, off, spot⟩, rfl, h1, h2, h3⟩
  · simp at hc
  · have h0 : 0 < l.length := by have := (List.getElem?_eq_some_iff.1 hc).1; omega
    have hc0 := h3 0 _ (List.getElem?_eq_getElem h0)
    have hsp : spot = none := by simpa [Addr.add] using World.cell?_spot hc0
    subst hsp
    exact ⟨b, off, rfl, by have := h3 i c hc; rwa [add_none] at this⟩
/-- where a piece of a slice begins -/
def sla (a : Option Addr) (cap lo : Nat) : Option Addr := if cap = lo then a else a.map (·.add lo)
theorem elem25 : Try.prog.underlying 25 = some (.slice (Try.prog.elem 25)) := by kernel_rfl
theorem size25 (w : World) : (sizeOf (Try.prog.elem 25)).run Try.prog w = .ok 1 w := by kernel_rfl
theorem run_piece (w : World) (a : Option Addr) (n cap lo k : Nat) (h : lo + k ≤ cap) :
    (Instr.slice 25 (.slice a n cap) (some (.int .i64 (lo : Int))) (some (.int .i64 ((lo : Int) + (k : Int)))) none).run Try.prog w = .ok (.slice (sla a cap lo) k (cap - lo)) w := by
  rw [run_slice_lh (P := Try.prog) w 25 a n cap elem25 .i64 .i64 lo (lo + k) (by omega) (by omega) (by omega), size25]
  simp only [Result.andThen, sliced, sla, Nat.mul_one, Int.toNat_natCast]
  have e : ((lo : Int) + (k : Int)).toNat = lo + k := by omega
  rw [e, Nat.add_sub_cancel_left]
theorem run_tail (w : World) (a : Option Addr) (n cap lo : Nat) (h : lo ≤ n) :
    (Instr.slice 25 (.slice a n cap) (some (.int .i64 (lo : Int))) none none).run Try.prog w = .ok (.slice (sla a cap lo) (n - lo) (cap - lo)) w := by
  rw [run_slice_l (P := Try.prog) w 25 a n cap elem25 .i64 lo (by omega) (by omega), size25]
  simp only [Result.andThen, sliced, sla, Nat.mul_one, Int.toNat_natCast]
/-- a piece of a slice -/
theorem Vw.piece {w : World} {a : Option Addr} {cap : Nat} {l : List (BitVec 8)} (h : Vw w a cap l) (lo n : Nat) (hlo : lo + n ≤ l.length) :
    Vw w (sla a cap lo) (cap - lo) ((l.drop lo).take n) := by
  unfold sla
  rcases h with ⟨rfl, rfl, rfl⟩ | ⟨x, rfl, h2, h3, h4⟩
  · exact .inl ⟨by split <;> rfl, by omega, by simp⟩
  · refine .inr ?_
    have hl : ((l.drop lo).take n).length = n := by rw [List.length_take, List.length_drop]; omega
    by_cases hc : cap = lo
    · refine ⟨x, by rw [if_pos hc], by omega, by omega, fun i c hi => ?_⟩
      have : i < n := by have := (List.getElem?_eq_some_iff.1 hi).1; omega
      omega
    · refine ⟨x.add lo, by rw [if_neg hc]; rfl, by omega, by omega, fun i c hi => ?_⟩
      rw [List.getElem?_take] at hi
      split at hi
      · rw [List.getElem?_drop] at hi
        have h := h4 _ _ hi
        have hsp : x.spot = none := by
          have h0 : 0 < l.length := by have := (List.getElem?_eq_some_iff.1 hi).1; omega
          have := World.cell?_spot (h4 0 _ (List.getElem?_eq_getElem h0))
          simpa [Addr.add] using this
        obtain ⟨b, off, spot⟩ := x
        subst hsp
        rw [add_none, add_none, Nat.add_assoc]; rwa [add_none] at h
      · cases hi
theorem and63 (a : Int) : ∃ m : Nat, m ≤ 63 ∧ bits .and .i64 a 63 = (m : Int) :=
  ⟨(a % 64).toNat, by omega, by have := and_pow_i64 a 6 (by omega); rw [show (63 : Int) = ((2 ^ 6 - 1 : Nat) : Int) from rfl, this]; simp; omega⟩
theorem copy_n (a : Option Addr) (cap n : Nat) (l : List (BitVec 8)) (w : World) (hn : n = l.length) (hv : Vw w a cap l) (hl : l.length ≤ 100000) :
    Calls Try.prog 9 #[.slice a n cap] w (Copied l w) := by subst hn; exact copy_any a cap l w hv hl
/-- the shape of what the call made -/
theorem own_shape' {w : World} {B n : Nat} {v : Value} {l : List (BitVec 8)} (h : w.ownsRow B 5 1 v n (cells l)) (hw : 0 ≤ n) :
    ∃ a cap, v = .slice a n cap ∧ Vw w a cap l ∧ ∀ x, a = some x → B ≤ x.block ∧ x.block < w.heap.size := by
  rcases id h.2 with ⟨rfl, rfl⟩ | ⟨g, cap, cur, rfl, h2, h3, h4, _⟩
  · have hl : l = [] := List.length_eq_zero_iff.1 (by have := h.1; rw [cells_length] at this; omega)
    subst hl
    exact ⟨none, 0, rfl, Vw.nil _, fun x e => by cases e⟩
  · exact ⟨_, cap, rfl, (Vw.of_own h).2, fun x e => by cases e; exact ⟨h2, lt_of_block h3⟩⟩
theorem mixm_n (b : Nat) (x : BitVec 16) (a : Option Addr) (cap n : Nat) (l : List (BitVec 8)) (w : World) (hn : n = l.length) (hr : Reg w b x) (hv : Vw w a cap l) (hl : l.length ≤ 100000) :
    Calls Try.prog 13 #[.pointer (some ⟨b, 0, none⟩), .slice a n cap] w (Mixed b x l w) := by subst hn; exact mixm_any b x a cap l w hr hv hl
/-- what holds at the head of the loop over the cuts -/
def BackRel (x0 : BitVec 16) (w5 : World) (sb : Nat) (bl : List (BitVec 8)) (m gk : Nat) (s11 s12 s13 : Value) (wr : World) : Prop :=
  ∃ i A : Nat, i + gk = m ∧ A ≤ bl.length ∧ s13 = .int .i64 i ∧ s11 = .int .i64 A ∧ wr.ownsRow w5.heap.size 5 1 s12 A (cells (mx x0 (bl.take A))) ∧ Reg wr sb (Scr.it (8 * A) x0) ∧ w5.grownBy wr (some sb)
theorem Below.of_grown' {B sb : Nat} {w w' w'' : World} (h : Below B w w') (g : w'.grownBy w'' (some sb)) (hB : w.heap.size ≤ sb) (hBw : B ≤ w.heap.size := by exact Nat.le_refl _) : Below B w w'' :=
  h.grown g (Nat.le_trans hBw h.size) (fun k hk => by cases hk; omega)
/-- a far write behind -/
theorem gfar {a b c : World} {s : Nat} {row : Option Nat} (h : a.grownBy b (some s)) (k : b.grownBy c row) (hr : ∀ j, row = some j → a.heap.size ≤ j) : a.grownBy c (some s) :=
  ⟨k.os.trans h.os, k.tape.trans h.tape, k.output.trans h.output, Nat.le_trans h.size k.size, fun i hi hne =>
    (k.block i (Nat.lt_of_lt_of_le hi h.size) (fun e => by have := hr i e.symm; omega)).trans (h.block i hi hne)⟩
theorem back_rel_step {x0 : BitVec 16} {w5 w' : World} {sb m i A k gk : Nat} {bl : List (BitVec 8)} {v : Value} (hi : i + gk = m) (hlt : i < m) (hk : A + k ≤ bl.length)
    (ho : w'.ownsRow w5.heap.size 5 1 v (A + k) (cells (mx x0 (bl.take A)) ++ cells (mx (Scr.it (8 * A) x0) ((bl.drop A).take k)))) (hr : Reg w' sb (Scr.it (8 * k) (Scr.it (8 * A) x0))) (hg : w5.grownBy w' (some sb))
    (s11 s13 : Value) (h11 : s11 = .int .i64 ((A : Int) + (k : Int))) (h13 : s13 = .int .i64 ((i : Int) + 1)) :
    BackRel x0 w5 sb bl m (gk - 1) s11 v s13 w' := by
  refine ⟨i + 1, A + k, by omega, hk, h13.trans (by simp), h11.trans (by simp), ?_, ?_, hg⟩
  · have e : bl.take (A + k) = bl.take A ++ (bl.drop A).take k := by rw [List.take_add]
    rw [e, mx_append, cells_append, List.length_take, Nat.min_eq_left (by omega)]
    exact ho
  · rw [Nat.mul_add, Scr.it_add]; exact hr
/-- what holds at the head of the loop that spoils a piece -/
def InRel (w7 : World) (B gx cx k gk : Nat) (s16 : Value) (wr : World) : Prop :=
  ∃ j : Nat, j + gk = k ∧ s16 = .int .i64 j ∧ (∃ ys, wr.ownsRow B 5 1 (.slice (some ⟨gx, 0, none⟩) k cx) k ys) ∧ w7.grownBy wr (some gx)
theorem ne_of_lt' {a b : Nat} (h : a < b) : some a ≠ some b := by simp; omega
theorem ho_nil {w : World} {B A k : Nat} {v : Value} {x y : BitVec 16} {l r : List (BitVec 8)} (h : w.ownsRow B 5 1 v A (cells (mx x l))) (hk : k ≤ 0) : w.ownsRow B 5 1 v (A + k) (cells (mx x l) ++ cells (mx y (r.take k))) := by
  obtain rfl : k = 0 := by omega
  simpa [mx, cells] using h
theorem same_yes (a a' : Option Addr) (cap cap' n m : Nat) (l : List (BitVec 8)) (w : World) (hn : n = l.length) (hm : m = l.length) (hl : Vw w a cap l) (hr : Vw w a' cap' l) :
    Calls Try.prog 11 #[.slice a n cap, .slice a' m cap'] w fun e w' => e = .returned (.bool true) ∧ w = w' :=
  (same_n a a' cap cap' n m l l w hn hm hl hr).mono fun _ _ h => ⟨h.1.trans (ret_bool (by simp)), h.2.symm⟩
theorem back_some (seed : Int) (a0 : Option Addr) (bb off cap0 cap1 : Nat) (bl : List (BitVec 8)) (cs : List Int) (w : World) (hb : Vw w a0 cap0 bl) (hc : Iw w (some ⟨bb, off, none⟩) cap1 cs) (hcl : cs.length ≤ 9223372036854775807) :
    Calls Try.prog 4 #[.int .i64 seed, .slice a0 bl.length cap0, .slice (some ⟨bb, off, none⟩) cs.length cap1] w fun e w' => e = .returned (.bool true) ∧ Below w.heap.size w w' := by
  obtain ⟨i0, hi, hz0, hz1, hz2⟩ := info_parts Try.info5
  have hbl := hb.len
  unfold maxLen at hbl
  by_cases hn : 4000 < bl.length
  · have HB := Lib.hid hb
    have HC := Lib.hid hc
    clear hb hc
    have hn' : (4000 : Int) < (bl.length : Int) := by omega
    go_enter Try.func4, Try.ntmps4
    go_wp2_with fail
    refine (first_any _).mono ?_
    rintro e w1 ⟨rfl, hb1⟩
    go_wp2
    go_ret
    exact ⟨rfl, hb1⟩
  by_cases hm : 100 < cs.length
  · have HB := Lib.hid hb
    have HC := Lib.hid hc
    clear hb hc
    go_enter Try.func4, Try.ntmps4
    go_wp2_with fail
    refine (first_any _).mono ?_
    rintro e w1 ⟨rfl, hb1⟩
    go_wp2
    go_ret
    exact ⟨rfl, hb1⟩
  have hl5 : bl.length ≤ 100000 := by omega
  have hcw : ∀ i c, cs[i]? = some c → bb < w.heap.size := fun i c h => by
    obtain ⟨b', o', e, hce⟩ := hc.at h
    cases e
    exact World.block_lt_of_cell? w _ hce
  have HW := Lib.hid hcw
  have HV := Lib.hid hb
  have HC := Lib.hid hc
  clear hb hc hcw
  go_enter Try.func4, Try.ntmps4
  go_wp2_with fail
  refine (first_any _).mono ?_
  rintro e w1 ⟨rfl, hb1⟩
  have V1 : Hid (Vw w1 a0 cap0 bl) := HV.out.below hb1 (Nat.le_refl _)
  go_wp2_with fail
  refine (copy_n a0 cap0 _ bl w1 rfl V1.out hl5).mono ?_
  rintro e w2 ⟨vk, rfl, hk, hb2⟩
  obtain ⟨ak, ck, rfl, VK, hak⟩ := own_shape' hk (Nat.zero_le _)
  have V2 : Hid (Vw w2 a0 cap0 bl) := V1.out.below hb2 (Nat.le_refl _)
  have B2 : Hid (Below w.heap.size w w2) := hb1.trans (hb2.mono hb1.size)
  have VK2 := Lib.hid VK
  clear hk hb2 VK hak hb1 V1
  go_wp2_with fail
  refine (mix_n seed a0 cap0 _ bl w2 rfl V2.out hl5).mono ?_
  rintro e w3 ⟨vm, rfl, hm3, hb3⟩
  obtain ⟨am, cm, rfl, VM, ham⟩ := own_shape' hm3 (Nat.zero_le _)
  have V3 : Hid (Vw w3 a0 cap0 bl) := V2.out.below hb3 (Nat.le_refl _)
  have VK3 : Hid (Vw w3 ak ck bl) := VK2.out.below hb3 (Nat.le_refl _)
  have VM3 := Lib.hid VM
  have B3 : Hid (Below w.heap.size w w3) := B2.out.trans (hb3.mono B2.out.size)
  have HAM : Hid (∀ x, am = some x → x.block < w3.heap.size) := fun x e => (ham x e).2
  clear hm3 hb3 VM ham V2 VK2 B2
  go_wp2_with fail
  refine (mix_n seed am cm _ (mx (ini seed) bl) w3 (mx_length _ _).symm VM3.out (by rw [mx_length]; exact hl5)).mono ?_
  rintro e w4 ⟨vy, rfl, hy, hb4⟩
  rw [mx_mx, mx_length] at hy
  obtain ⟨ay, cy, rfl, VY, hay⟩ := own_shape' hy (Nat.zero_le _)
  have V4 : Hid (Vw w4 a0 cap0 bl) := V3.out.below hb4 (Nat.le_refl _)
  have VK4 : Hid (Vw w4 ak ck bl) := VK3.out.below hb4 (Nat.le_refl _)
  have VM4 : Hid (Vw w4 am cm (mx (ini seed) bl)) := VM3.out.below hb4 (Nat.le_refl _)
  have VY4 := Lib.hid VY
  have HAM4 : Hid (∀ x, am = some x → x.block < w4.heap.size) := fun x e => Nat.lt_of_lt_of_le (HAM.out x e) hb4.size
  clear HAM
  have B4 : Hid (Below w.heap.size w w4) := B3.out.trans (hb4.mono B3.out.size)
  clear hy hb4 VY hay V3 VK3 VM3 B3
  go_wp2_with fail
  refine (same_yes ay a0 cy cap0 _ _ bl w4 rfl rfl VY4.out V4.out).mono ?_
  rintro e w4' ⟨rfl, rfl⟩
  go_wp2_with fail
  refine (same_yes a0 ak cap0 ck _ _ bl w4 rfl rfl V4.out VK4.out).mono ?_
  rintro e w4' ⟨rfl, rfl⟩
  clear VY4 VK4
  go_wp2_with fail
  refine (new_reg _ _).mono ?_
  rintro e w5 ⟨rfl, hr5, hg5⟩
  have V5 : Hid (Vw w5 a0 cap0 bl) := V4.out.grown hg5 (by simp)
  have VM5 : Hid (Vw w5 am cm (mx (ini seed) bl)) := VM4.out.grown hg5 (by simp)
  have B5 : Hid (Below w.heap.size w w5) := B4.out.grown hg5 B4.out.size (by simp)
  have C5 : Hid (Iw w5 (some ⟨bb, off, none⟩) cap1 cs) := HC.out.below B5.out (Nat.le_refl _)
  have R5 := Lib.hid hr5
  have hsb : w.heap.size ≤ w4.heap.size := B4.out.size
  have hsb5 : w4.heap.size < w5.heap.size := hr5.lt
  clear hr5 hg5 V4 VM4 B4 HC V5
  obtain ⟨sb, hsbe⟩ : ∃ sb, w4.heap.size = sb := ⟨_, rfl⟩
  rw [hsbe] at R5 hsb hsb5 HAM4
  rw [hsbe]
  clear hsbe
  go_wp2_with fail
  go_loopg [11, 12, 13] cs.length (fun gk s11 s12 s13 wr => BackRel (ini seed) w5 sb bl cs.length gk s11 s12 s13 wr)
  case atStart => exact ⟨0, 0, by omega, by omega, rfl, rfl, World.ownsRow_nil _ _ _ _, R5.out, grefl _ _⟩
  case round =>
    obtain ⟨i, A, hig, hA, rfl, rfl, ho, hr, hg⟩ := hrel
    by_cases hlt : i < cs.length
    · obtain ⟨c, hci⟩ : ∃ c, cs[i]? = some c := ⟨_, List.getElem?_eq_getElem hlt⟩
      have hcell : wr.cell? ⟨bb, off + i, none⟩ = some (.int .i64 c) := by
        obtain ⟨b', o', hbo, hce⟩ := C5.out.at hci
        cases hbo
        exact hg.cell hce (by have := HW.out i c hci; simp; omega)
      obtain ⟨C, hC1, hC2⟩ := and63 c
      have HO := Lib.hid ho
      have HR := Lib.hid hr
      have HG := Lib.hid hg
      clear ho hr hg
      go_upto_region 15 with (fail)
      obtain ⟨k, ek, hk⟩ : ∃ k : Nat, (if (bl.length : Int) - (A : Int) < (C : Int) then (bl.length : Int) - (A : Int) else (C : Int)) = (k : Int) ∧ A + k ≤ bl.length := by
        by_cases h : (bl.length : Int) - (A : Int) < (C : Int)
        · exact ⟨bl.length - A, by rw [if_pos h]; omega, by omega⟩
        · exact ⟨C, by rw [if_neg h], by omega⟩
      rw [ek]
      have EK := Lib.hid ek
      clear ek hcell hC1 hC2 hci
      have hsl := fun w' => run_piece w' a0 bl.length cap0 A k (by omega)
      have hpl : k = ((bl.drop A).take k).length := by rw [List.length_take, List.length_drop]; omega
      have HPL := Lib.hid hpl
      clear hpl
      go_wp2_with (fail)
      refine (mixm_n sb (Scr.it (8 * A) (ini seed)) (sla a0 cap0 A) (cap0 - A) k ((bl.drop A).take k) wr HPL.out HR.out ((HV.out.below (Below.of_grown' B5.out HG.out hsb) (Nat.le_refl _)).piece A k hk) (by rw [← HPL.out]; omega)).mono ?_
      rintro e w6 ⟨vx, rfl, hx6, hr6, hg6⟩
      rw [← HPL.out] at hx6 hr6
      have HX := Lib.hid hx6
      have HR6 := Lib.hid hr6
      have HG6 := Lib.hid hg6
      have hwr : w5.heap.size ≤ wr.heap.size := HG.out.size
      clear hsl HR
      rcases hx6.2 with ⟨rfl, hk0⟩ | ⟨gx, cx, cur, rfl, hgx, hgx6, hkc, _⟩
      · clear hx6 hr6 hg6
        have HO6 := Lib.hid (HO.out.kept HG6.out (.inr fun e => by have := (HO.out.lt sb e).1; omega))
        have ek0 : (k : Int) ≤ 0 := by omega
        go_wp2_with (at_builtin; go_loud (refine wpList_append_own_none rfl _ _ 25 rfl w5.heap.size 5 i0 1 Try.underlying25 hi _ A _ rfl HO6.out rfl ?_))
        refine wp_loop_rounds 1 ?_
        rw [rounds_succ]
        clear hk0
        go_wp2
        go_roundg (gk - 1)
        case measure => omega
        case rel => exact back_rel_step hig hlt hk (ho_nil HO6.out (by omega)) HR6.out (gtrans HG.out HG6.out) _ _ (by go_num) (by go_num)
      · have HO6 := Lib.hid (HO.out.kept HG6.out (.inr fun e => by have := (HO.out.lt sb e).1; omega))
        have HX6 : Hid (w6.ownsRow w5.heap.size 5 1 (.slice (some ⟨gx, 0, none⟩) k cx) k (cells (mx (Scr.it (8 * A) (ini seed)) ((bl.drop A).take k)))) := own_base HX.out hwr
        have VX6 := Lib.hid (Vw.of_own HX.out).2
        have hgo : Hid (∀ g, Value.ownBlock u12 = some g → g < wr.heap.size) := fun g e => (HO.out.lt g e).2
        clear hx6 hr6 hg6
        go_wp2_with (at_builtin; go_loud (refine wpList_append_own_at _ rfl _ _ 25 rfl w5.heap.size 5 i0 (.int .u8 0) 1 1 Try.underlying25 hi hz0 hz1 hz2 rfl (by decide) _ A _ rfl HO6.out ⟨gx, 0, none⟩ k cx (cells (mx (Scr.it (8 * A) (ini seed)) ((bl.drop A).take k))) rfl ?c1 ?c2 (cells_one _) ?c3 ?c4 ?c5 ?_))
        case c2 =>
          intro j u hu
          rw [cells_get] at hu
          cases hc : (mx (Scr.it (8 * A) (ini seed)) ((bl.drop A).take k))[j]? with
          | none => rw [hc] at hu; cases hu
          | some c => rw [hc] at hu; cases hu; rw [add_none, Nat.zero_add]; exact VX6.out.cellAt j c hc
        case c1 => rw [cells_length, mx_length, ← HPL.out]; omega
        case c3 => unfold maxLen; omega
        case c4 => omega
        case c5 => exact Nat.le_trans hwr HG6.out.size
        intro v' w7 ho7 hg7 hnil7 hat7
        clear hnil7
        have hgx2 : gx < w6.heap.size := lt_of_block hgx6
        have hne7 : ∀ g, Value.ownBlock u12 = some g → w5.heap.size ≤ g ∧ g < gx := fun g e => ⟨(HO.out.lt g e).1, by have := hgo.out g e; omega⟩
        have X7 := Lib.hid (HX6.out.kept hg7 (.inr fun e => by have := hne7 gx e.symm; omega))
        have R7 := Lib.hid (HR6.out.kept hg7 (fun e => by have := (hne7 sb e.symm).1; omega))
        have G7 := Lib.hid (gfar (gtrans HG.out HG6.out) hg7 (fun j e => (hne7 j e).1))
        have N7 : Hid (Value.ownBlock v' ≠ some gx) := fun e => by
          rcases hat7 with h | h
          · rw [h] at e; have := hne7 gx e; omega
          · rw [h] at e; simp at e; omega
        have O7 := Lib.hid ho7
        have hgxb : w5.heap.size ≤ gx := by omega
        obtain ⟨go, rfl⟩ : ∃ go, go = gk := ⟨_, rfl⟩
        clear ho7 hg7 hat7 hne7 hgx6 HO6 HX6 VX6 hgo HX
        go_wp2_with (fail)
        go_loopg [16] k (fun gk s16 wr => InRel w7 w5.heap.size gx cx k gk s16 wr)
        case atStart => exact ⟨0, by omega, rfl, ⟨_, X7.out⟩, grefl _ _⟩
        case round =>
          obtain ⟨j, hjg, rfl, ⟨ys, hys⟩, hgr⟩ := hrel
          by_cases hjk : j < k
          · have hyl : ys.length = k := by have := hys.1; omega
            obtain ⟨u, hu⟩ : ∃ u, ys[j]? = some u := ⟨_, List.getElem?_eq_getElem (by omega)⟩
            have hcx : wr.cell? ⟨gx, j, none⟩ = some u := by rw [hys.cellAt j (by omega)]; exact hu
            have hfx := hys.frozenAt j
            have HY := Lib.hid hys
            have HG2 := Lib.hid hgr
            clear hys hgr hu
            go_wp2
            go_roundg (gk - 1)
            case measure => omega
            case rel => exact ⟨j + 1, by omega, by go_num, ⟨_, (HY.out.stored j _).1⟩, gtrans HG2.out (gset _ _ _ _)⟩
          · have hR := Lib.hid (R7.out.kept hgr (ne_of_lt' (Nat.lt_of_lt_of_le hsb5 hgxb)))
            have hO := Lib.hid (O7.out.kept hgr (.inr N7.out))
            have hG := Lib.hid (gfar G7.out hgr (fun j e => by cases e; exact hgxb))
            clear hys hgr
            go_wp2
            go_roundg (go - 1)
            case measure => omega
            case rel => exact back_rel_step hig hlt hk hO.out hR.out hG.out _ _ (by go_num) (by go_num)
    · obtain rfl : i = cs.length := by omega
      have hAl : A ≤ bl.length := hA
      have hsl := fun w' => run_tail w' a0 bl.length cap0 A hAl
      have HO := Lib.hid ho
      have HR := Lib.hid hr
      have HG := Lib.hid hg
      clear ho hr hg
      have hpl : bl.length - A = (bl.drop A).length := by rw [List.length_drop]
      have HPL := Lib.hid hpl
      have epl : (bl.drop A).take (bl.length - A) = bl.drop A := by rw [hpl, List.take_length]
      have hpc := (HV.out.below (Below.of_grown' B5.out HG.out hsb) (Nat.le_refl _)).piece A (bl.length - A) (by omega)
      rw [epl] at hpc
      have HPC := Lib.hid hpc
      clear hpl epl hpc
      go_wp2_with (fail)
      refine (mixm_n sb (Scr.it (8 * A) (ini seed)) (sla a0 cap0 A) (cap0 - A) _ (bl.drop A) wr HPL.out HR.out HPC.out (by rw [← HPL.out]; omega)).mono ?_
      rintro e w6 ⟨vx, rfl, hx6, hr6, hg6⟩
      rw [← HPL.out] at hx6
      have HX := Lib.hid hx6
      have hwr : w5.heap.size ≤ wr.heap.size := HG.out.size
      have HO6 := Lib.hid (HO.out.kept hg6 (.inr fun e => by have := (HO.out.lt sb e).1; omega))
      have G6 := Lib.hid (gtrans HG.out hg6)
      have all : Hid (cells (mx (ini seed) (bl.take A)) ++ cells (mx (Scr.it (8 * A) (ini seed)) (bl.drop A)) = cells (mx (ini seed) bl)) := by
        have e := mx_append (ini seed) (bl.take A) (bl.drop A)
        rw [List.take_append_drop, List.length_take, Nat.min_eq_left hAl] at e
        unfold Hid
        rw [← cells_append, e]
      clear hsl HR hr6 hg6
      rcases hx6.2 with ⟨rfl, hk0⟩ | ⟨gx, cx, cur, rfl, hgx, hgx6, hkc, _⟩
      · clear hx6
        have hA2 : A = bl.length := by omega
        subst hA2
        have hO : w6.ownsRow w5.heap.size 5 1 u12 bl.length (cells (mx (ini seed) bl)) := by have := HO6.out; rwa [List.take_length] at this
        obtain ⟨ao, co, rfl, VO, _⟩ := own_shape' hO (Nat.zero_le _)
        have VO6 := Lib.hid VO
        clear VO hO hk0
        go_wp2_with (at_builtin; refine wpList_append_own_none rfl _ _ 25 rfl w5.heap.size 5 i0 1 Try.underlying25 hi _ bl.length _ rfl HO6.out rfl ?_)
        refine (same_yes ao am co cm _ _ (mx (ini seed) bl) w6 (mx_length _ _).symm (mx_length _ _).symm VO6.out (VM5.out.grown G6.out (fun x e => ne_of_lt' (HAM4.out x e)))).mono ?_
        rintro e w7 ⟨rfl, rfl⟩
        go_wp2
        go_ret
        exact ⟨rfl, Below.of_grown' B5.out G6.out hsb⟩
      · have VX6 := Lib.hid (Vw.of_own HX.out).2
        clear hx6
        go_wp2_with (at_builtin; refine wpList_append_own_at _ rfl _ _ 25 rfl w5.heap.size 5 i0 (.int .u8 0) 1 1 Try.underlying25 hi hz0 hz1 hz2 rfl (by decide) _ A _ rfl HO6.out ⟨gx, 0, none⟩ (bl.length - A) cx (cells (mx (Scr.it (8 * A) (ini seed)) (bl.drop A))) rfl ?c1 ?c2 (cells_one _) ?c3 ?c4 ?c5 ?_)
        case c2 =>
          intro j u hu
          rw [cells_get] at hu
          cases hc : (mx (Scr.it (8 * A) (ini seed)) (bl.drop A))[j]? with
          | none => rw [hc] at hu; cases hu
          | some c => rw [hc] at hu; cases hu; rw [add_none, Nat.zero_add]; exact VX6.out.cellAt j c hc
        case c1 => rw [cells_length, mx_length, ← HPL.out]; omega
        case c3 => unfold maxLen; omega
        case c4 => omega
        case c5 => exact G6.out.size
        intro v' w7 ho7 hg7 hnil7 hat7
        rw [all.out] at ho7
        replace ho7 : w7.ownsRow w5.heap.size 5 1 v' bl.length (cells (mx (ini seed) bl)) := by first | exact ho7 | (rw [Nat.add_sub_cancel' hAl] at ho7; exact ho7)
        obtain ⟨ao, co, rfl, VO, _⟩ := own_shape' ho7 (Nat.zero_le _)
        have VO7 := Lib.hid VO
        have G7 := Lib.hid (gfar G6.out hg7 (fun j e => (HO6.out.lt j e).1))
        clear VO ho7 hg7 hnil7 hat7
        go_wp2_with (fail)
        refine (same_yes ao am co cm _ _ (mx (ini seed) bl) w7 (mx_length _ _).symm (mx_length _ _).symm VO7.out (VM5.out.grown G7.out (fun x e => ne_of_lt' (HAM4.out x e)))).mono ?_
        rintro e w8 ⟨rfl, rfl⟩
        go_wp2
        go_ret
        exact ⟨rfl, Below.of_grown' B5.out G7.out hsb⟩
end Go.Proofs.Ytbdlilgpalfnfaa
