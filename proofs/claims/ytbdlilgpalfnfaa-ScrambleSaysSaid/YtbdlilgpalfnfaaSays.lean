/- The walk of ScrambleSays: it returns true and changes nothing that was there; no condition. -/
import Derived.Test.YtbdlilgpalfnfaaRef
import Derived.Deep.RegionLaw
import Derived.Deep.RegionHeld3
set_option linter.unusedVariables false
namespace Go.Proofs.Ytbdlilgpalfnfaa
open Go.RowKit

theorem next_lo (b : Nat) (x : BitVec 16) (w : World) (h : Reg w b x) :
    Calls Try.prog 16 #[.pointer (some ⟨b, 0, none⟩)] w fun e w' => e = .returned (.int .i64 (nv (lo x))) ∧ Reg w' b (Scr.it 8 x) ∧ w.grownBy w' (some b) := by
  have := next_reg b x w h
  rwa [low8] at this
theorem and4095 (a : Int) : bits .and .i64 a 4095 ≤ 5000 := by
  have := and_pow_i64 a 12 (by omega)
  rw [show (4095 : Int) = ((2 ^ 12 - 1 : Nat) : Int) from rfl, this]
  have := Int.emod_lt_of_pos a (show (0 : Int) < ((2 ^ 12 : Nat) : Int) by decide)
  simp at *
  omega
def Cut1 (s2 : Value) : Prop := ∃ N : Int, s2 = .int .i64 N ∧ (N ≤ 5000 ∨ 1048576 ≤ N)
def Cut2 (s2 : Value) : Prop := ∃ N : Int, s2 = .int .i64 N ∧ N ≤ 5000
def SaysRel (x0 : BitVec 16) (ws : World) (sb gk : Nat) (s11 s12 : Value) (wr : World) : Prop :=
  ∃ k : Nat, k + gk = 20 ∧ s11 = .int .i64 (nv (Scr.it (8 * k) x0)) ∧ s12 = .int .i64 k ∧ Reg wr sb (Scr.it (8 * k) x0) ∧ ws.grownBy wr (some sb)
/-- what the two Mixes leave: a slice that reads as the mixed bytes; nothing that was there is changed -/
def MixS (B : Nat) (w0 : World) (seed : Int) (l : List (BitVec 8)) (C : World → Prop) (e : Ending) (w' : World) : Prop :=
  ∃ a cap, e = .returned (.slice a l.length cap) ∧ Vw w' a cap (mx (ini seed) l) ∧ Below B w0 w' ∧ C w'
/-- what is carried through the last test: the bytes' and the place's memory -/
def Car (w : World) (P0 P1 : Int) (wx : World) : Prop :=
  Below w.heap.size w wx ∧ wx.cell? ⟨w.heap.size, 0, none⟩ = some (.int .i64 P0) ∧ wx.cell? ⟨w.heap.size, 1, none⟩ = some (.int .i64 P1)
theorem Car.later {w wx w' : World} {P0 P1 : Int} (h : Car w P0 P1 wx) (g : Below wx.heap.size wx w') : Car w P0 P1 w' := by
  obtain ⟨h1, h2, h3⟩ := h
  refine ⟨h1.trans (g.mono h1.size), ?_, ?_⟩
  · rw [g.cell (World.block_lt_of_cell? wx _ h2)]; exact h2
  · rw [g.cell (World.block_lt_of_cell? wx _ h3)]; exact h3
def MixC (w : World) (P0 P1 : Int) (seed : Int) (l : List (BitVec 8)) (wx : World) (e : Ending) (w' : World) : Prop :=
  ∃ a cap, e = .returned (.slice a l.length cap) ∧ Vw w' a cap (mx (ini seed) l) ∧ (∀ x, a = some x → x.block < w'.heap.size) ∧ Below wx.heap.size wx w' ∧ Car w P0 P1 w'
theorem mixc {w wx : World} {P0 P1 : Int} (seed : Int) {a0 : Option Addr} {cap0 : Nat} {bl : List (BitVec 8)} (hS : Car w P0 P1 wx) (hb : Vw w a0 cap0 bl) (hl : bl.length ≤ 100000) :
    Calls Try.prog 10 #[.int .i64 seed, .slice a0 bl.length cap0] wx (MixC w P0 P1 seed bl wx) :=
  (mix_any seed a0 cap0 bl wx (hb.below hS.1 (Nat.le_refl _)) hl).mono fun e w' ⟨v, he, ho, hB⟩ => by
    obtain ⟨a, cap, rfl, hv, hx⟩ := own_shape' ho (Nat.zero_le _)
    exact ⟨a, cap, he, hv, fun x e => (hx x e).2, hB, hS.later hB⟩
theorem rmixc {w wx : World} {P0 P1 : Int} (seed : Int) {a0 : Option Addr} {cap0 : Nat} {bl : List (BitVec 8)} (hS : Car w P0 P1 wx) (hb : Vw w a0 cap0 bl) (hl : bl.length ≤ 100000) :
    Calls Try.prog 17 #[.int .i64 seed, .slice a0 bl.length cap0] wx (MixC w P0 P1 seed bl wx) :=
  (rmix_any seed a0 cap0 bl wx (hb.below hS.1 (Nat.le_refl _)) hl).mono fun e w' ⟨v, he, ho, hB⟩ => by
    obtain ⟨a, cap, rfl, hv, hx⟩ := own_shape' ho (Nat.zero_le _)
    exact ⟨a, cap, he, hv, fun x e => (hx x e).2, hB, hS.later hB⟩
/-- what a call that hands back a number leaves -/
def NumC (w : World) (P0 P1 : Int) (n : Int) (e : Ending) (w' : World) : Prop := e = .returned (.int .i64 n) ∧ Car w P0 P1 w'
theorem skipc {w wx : World} {P0 P1 : Int} (seed n : Int) (hS : Car w P0 P1 wx) : Calls Try.prog 8 #[.int .i64 seed, .int .i64 n] wx (NumC w P0 P1 (nv (Scr.it (8 * cl n) (ini seed)))) :=
  (skip_any seed n wx).mono fun _ _ h => ⟨h.1, hS.later h.2⟩
theorem rskipc {w wx : World} {P0 P1 : Int} (seed n : Int) (hn : n ≤ 5000) (hS : Car w P0 P1 wx) : Calls Try.prog 18 #[.int .i64 seed, .int .i64 n] wx (NumC w P0 P1 (nv (Scr.it (8 * cl n) (ini seed)))) :=
  (rskip_any seed n wx hn).mono fun _ _ h => ⟨h.1, by rw [h.2]; exact hS⟩
theorem seedc {w wx : World} {P0 P1 : Int} (b p : Int) (hS : Car w P0 P1 wx) : Calls Try.prog 19 #[.agg #[.int .i64 b, .int .i64 p]] wx (NumC w P0 P1 (sd b p)) :=
  (seed_any b p wx).mono fun _ _ h => ⟨h.1, hS.later h.2⟩
theorem rseedc {w wx : World} {P0 P1 : Int} (b p : Int) (hS : Car w P0 P1 wx) : Calls Try.prog 20 #[.agg #[.int .i64 b, .int .i64 p]] wx (NumC w P0 P1 (sd b p)) :=
  (rseed_any b p wx).mono fun _ _ h => ⟨h.1, hS.later h.2⟩
theorem says_walk (seed : Int) (a0 : Option Addr) (cap0 : Nat) (bl : List (BitVec 8)) (n P0 P1 : Int) (w : World) (hb : Vw w a0 cap0 bl) :
    Calls Try.prog 6 #[.int .i64 seed, .slice a0 bl.length cap0, .int .i64 n, .agg #[.int .i64 P0, .int .i64 P1]] w fun e w' => e = .returned (.bool true) ∧ Below w.heap.size w w' := by
  obtain ⟨i0, hi, hz0, hz1, hz2⟩ := info_parts Try.info5
  have hbl := hb.len
  unfold maxLen at hbl
  have HB := Lib.hid hb
  clear hb
  by_cases hn : 4000 < bl.length
  · have hn' : (4000 : Int) < (bl.length : Int) := by omega
    go_enter Try.func6, Try.ntmps6
    go_wp2_with fail
    refine (first_any _).mono ?_
    rintro e w1 ⟨rfl, hb1⟩
    have HB1 : Hid (Below w.heap.size w w1) := ((Below.refl _ _).alloc (Nat.le_refl _) _).trans (hb1.mono (by simp))
    clear hb1
    go_wp2
    go_ret
    exact ⟨rfl, HB1.out⟩
  · have hl5 : bl.length ≤ 100000 := by omega
    go_enter Try.func6, Try.ntmps6
    go_wp2_with fail
    refine (first_any _).mono ?_
    rintro e w1 ⟨rfl, hb1⟩
    have hc0 : w1.cell? ⟨w.heap.size, 0, none⟩ = some (.int .i64 P0) := by rw [hb1.cell (by simp)]; simp
    have hc1 : w1.cell? ⟨w.heap.size, 1, none⟩ = some (.int .i64 P1) := by rw [hb1.cell (by simp)]; simp
    have HC0 := Lib.hid hc0
    have HC1 := Lib.hid hc1
    have HB1 : Hid (Below w.heap.size w w1) := ((Below.refl _ _).alloc (Nat.le_refl _) _).trans (hb1.mono (by simp))
    have hsz : w.heap.size < w1.heap.size := by have := hb1.size; simp at this; omega
    clear hb1 hc0 hc1
    obtain ⟨T, hT⟩ : ∃ T : Bool, T = (decide (5000 < n) && decide (n < 1048576)) := ⟨_, rfl⟩
    have HT := Lib.hid hT
    clear hT
    go_upto_region 4 with (fail)
    go_cut [29] (fun s29 wx => s29 = .bool T ∧ wx = w1)
    case first =>
      rcases (show n ≤ 5000 ∨ (5000 < n ∧ n < 1048576) ∨ 1048576 ≤ n by omega) with h | ⟨h, h'⟩ | h
      · go_wp2_with (fail)
        go_meet
        exact ⟨by rw [HT.out, show decide (5000 < n) = false from decide_eq_false (by omega)]; rfl, rfl⟩
      · go_wp2_with (fail)
        go_meet
        exact ⟨by rw [HT.out, show decide (5000 < n) = true from decide_eq_true h, show decide (n < 1048576) = true from decide_eq_true h']; rfl, rfl⟩
      · go_wp2_with (fail)
        go_meet
        exact ⟨by rw [HT.out, show decide (n < 1048576) = false from decide_eq_false (by omega), Bool.and_false], rfl⟩
    case rest =>
    obtain ⟨rfl, hw⟩ := hcut
    subst hw
    go_upto_if 29 with (fail)
    go_cut [2] (fun s2 wx => Cut1 s2 ∧ wx = wc)
    case first =>
      rcases hT : T with _ | _
      · have hn1 : n ≤ 5000 ∨ 1048576 ≤ n := by
          have := HT.out; rw [hT] at this
          by_cases h : 5000 < n
          · by_cases h' : n < 1048576
            · simp [h, h'] at this
            · right; omega
          · left; omega
        subst hT
        go_wp2_with (fail)
        go_meet
        exact ⟨⟨_, rfl, hn1⟩, rfl⟩
      · subst hT
        go_wp2_with (fail)
        go_meet
        exact ⟨⟨_, rfl, .inl (and4095 n)⟩, rfl⟩
    case rest =>
      clear HT
      obtain ⟨⟨N1, rfl, hN1⟩, hw⟩ := hcut
      subst hw
      go_upto_if 33 with (fail)
      go_cut [2] (fun s2 wx => Cut2 s2 ∧ wx = wc)
      case first =>
        rcases hN1 with h | h
        all_goals
          go_wp2_with (fail)
          go_meet
          first
            | exact ⟨⟨_, rfl, by assumption⟩, rfl⟩
            | exact ⟨⟨_, rfl, and4095 _⟩, rfl⟩
      case rest =>
        obtain ⟨⟨N, rfl, hN⟩, hw⟩ := hcut
        subst hw
        clear hN1
        go_wp2_with fail
        refine (new_reg _ _).mono ?_
        rintro e ws ⟨rfl, hr2, hg2⟩
        obtain ⟨sb, hsbe⟩ : ∃ sb, wc.heap.size = sb := ⟨_, rfl⟩
        rw [hsbe] at hr2 hsz
        have HB2 : Hid (Below w.heap.size w ws) := HB1.out.grown hg2 HB1.out.size (by simp)
        have HC02 : Hid (ws.cell? ⟨w.heap.size, 0, none⟩ = some (.int .i64 P0)) := hg2.cell HC0.out (by simp)
        have HC12 : Hid (ws.cell? ⟨w.heap.size, 1, none⟩ = some (.int .i64 P1)) := hg2.cell HC1.out (by simp)
        have HR2 := Lib.hid hr2
        have hsb2 : sb < ws.heap.size := hr2.lt
        have hwsb : w.heap.size ≤ sb := by omega
        rw [hsbe]
        clear hr2 hg2 hsbe HB1 HC0 HC1
        go_wp2_with (go_at_call 14; refine (state_any _ _).mono ?_; rintro e w1 ⟨rfl, rfl⟩)
        go_loopg [11, 12] 20 (fun gk s11 s12 wr => SaysRel (ini seed) ws sb gk s11 s12 wr)
        case atStart => exact ⟨0, rfl, rfl, rfl, HR2.out, grefl _ _⟩
        case round =>
          obtain ⟨k, hk, rfl, rfl, hr, hg⟩ := hrel
          by_cases hlt : k < 20
          · have HG := Lib.hid hg
            have HR := Lib.hid hr
            clear hg hr
            go_wp2_with (first
              | (go_at_call 15; refine (rnext_any _ _).mono ?_; rintro e w1 ⟨rfl, rfl⟩)
              | (go_at_call 16; refine (next_lo _ _ _ HR.out).mono ?_; rintro e w2 ⟨rfl, hr3, hg3⟩; have HR3 := Lib.hid hr3; have HG3 := Lib.hid hg3; clear hr3 hg3))
            go_roundg (gk - 1)
            case measure => omega
            case rel => exact ⟨k + 1, by omega, by rw [show 8 * (k + 1) = 8 * k + 8 by omega, Scr.it_add], by go_num, by rw [show 8 * (k + 1) = 8 * k + 8 by omega, Scr.it_add]; exact HR3.out, gtrans HG.out HG3.out⟩
          · have HB3 := Lib.hid (Below.of_grown' HB2.out hg hwsb)
            have HC03 : Hid (wr.cell? ⟨w.heap.size, 0, none⟩ = some (.int .i64 P0)) := hg.cell HC02.out (ne_of_lt' (by omega))
            have HC13 : Hid (wr.cell? ⟨w.heap.size, 1, none⟩ = some (.int .i64 P1)) := hg.cell HC12.out (ne_of_lt' (by omega))
            clear hr hg HC02 HC12 HB2
            go_wp2_with fail
            obtain ⟨X, hX⟩ : ∃ X, nv (Scr.it (8 * cl N) (ini seed)) = X := ⟨_, rfl⟩
            obtain ⟨Y, hY⟩ : ∃ Y, sd P0 P1 = Y := ⟨_, rfl⟩
            have s1 := fun wx (h : Car w P0 P1 wx) => skipc seed N h
            have s2 := fun wx (h : Car w P0 P1 wx) => rskipc seed N hN h
            have s3 := fun wx (h : Car w P0 P1 wx) => seedc P0 P1 h
            have s4 := fun wx (h : Car w P0 P1 wx) => rseedc P0 P1 h
            rw [hX] at s1 s2
            rw [hY] at s3 s4
            have S1 := Lib.hid s1
            have S2 := Lib.hid s2
            have S3 := Lib.hid s3
            have S4 := Lib.hid s4
            have CC : Car w P0 P1 wr.drew := ⟨HB3.out.drew, HC03.out, HC13.out⟩
            clear s1 s2 s3 s4 hX hY
            go_region_held3 (fun w' => w'.cell? ⟨w.heap.size, 0, none⟩ = some (.int .i64 P0) ∧ w'.cell? ⟨w.heap.size, 1, none⟩ = some (.int .i64 P1)) (first | exact ⟨HC03.out, HC13.out⟩ | exact (show Car _ _ _ _ by assumption).2 | go_keep)
              (first
                | (go_at_call 10; refine (mixc seed CC HB.out hl5).mono ?_; rintro e wa ⟨am, cm, rfl, VM, hxm, hbm, CM⟩)
                | (go_at_call 17; refine (rmixc seed CM HB.out hl5).mono ?_; rintro e wb ⟨ar, cr, rfl, VR, hxr, hbr, CR⟩; have VM2 := VM.below hbr (Nat.le_refl _))
                | (go_at_call 11; refine (same_yes am ar cm cr _ _ (mx (ini seed) bl) _ (mx_length _ _).symm (mx_length _ _).symm VM2 VR).mono ?_; rintro e wb' ⟨rfl, rfl⟩)
                | (go_at_call 8; refine (S1.out _ CR).mono ?_; rintro e wd ⟨rfl, CD⟩)
                | (go_at_call 18; refine (S2.out _ CD).mono ?_; rintro e we ⟨rfl, CE⟩)
                | (go_at_call 19; refine (S3.out _ CE).mono ?_; rintro e wf ⟨rfl, CF⟩)
                | (go_at_call 20; refine (S4.out _ CF).mono ?_; rintro e wg ⟨rfl, CG⟩))
            go_wp2
            go_ret
            exact ⟨rfl, CG.1⟩
end Go.Proofs.Ytbdlilgpalfnfaa
