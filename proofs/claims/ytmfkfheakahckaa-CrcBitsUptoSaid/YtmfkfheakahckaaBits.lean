/- The walk of CrcBits: it returns true and changes nothing that was there; no condition. -/
import Derived.Test.YtmfkfheakahckaaThree
import Derived.Test.YtmfkfheakahckaaTwo
set_option linter.unusedVariables false
namespace Go.Proofs.Ytmfkfheakahckaa
open Go.RowKit

/-- the first k bits of a word -/
def Mk (m : BitVec 32) (k : Nat) : BitVec 32 := tm ((List.range 32).map fun i => 1#32 <<< i) m k
theorem Mk_succ (m : BitVec 32) (k : Nat) (hk : k < 32) : Mk m (k + 1) = if m.getLsbD k then Mk m k ^^^ (1#32 <<< k) else Mk m k := by
  have hg : (((List.range 32).map fun i => 1#32 <<< i)[k]?.getD 0#32) = 1#32 <<< k := by simp [hk]
  unfold Mk
  rw [tm, hg]
theorem Mk_ne (m : BitVec 32) (k : Nat) (hk : k < 32) (hb : m.getLsbD k = true) : (Mk m (k + 1) == 0#32) = false := by
  apply beq_eq_false_iff_ne.2
  intro e
  have h := tm_bit m (k + 1) (by omega) k
  unfold Mk at e
  rw [e, hb] at h
  simp at h
/-- what holds at the head of the first loop -/
def B1 (w : World) (gx cx : Nat) (bl : List (BitVec 8)) (m : BitVec 32) (A gk : Nat) (s12 s13 s14 : Value) (wr : World) : Prop :=
  ∃ (i : Nat) (L : List (BitVec 8)), i + gk = 32 ∧ A + i ≤ 8 * bl.length ∧ s14 = .int .i64 i ∧ s12 = .int .i64 (nv (Crc.crc L)) ∧ s13 = .bool (!(Mk m i == 0#32)) ∧ L.length = bl.length ∧
    Crc.crc L = Crc.crc bl ^^^ Crc.it (8 * bl.length - A) (Mk m i) ∧ wr.ownsRow w.heap.size 5 1 (.slice (some ⟨gx, 0, none⟩) bl.length cx) bl.length (cells L) ∧ Bel w wr
theorem b1_flip {bl L : List (BitVec 8)} {m : BitVec 32} {A i : Nat} (hi : i < 32) (hA : A + i < 8 * bl.length) (hl : L.length = bl.length) (hb : m.getLsbD i = true) (h : Crc.crc L = Crc.crc bl ^^^ Crc.it (8 * bl.length - A) (Mk m i)) :
    Crc.crc (Crc.flip L (A + i)) = Crc.crc bl ^^^ Crc.it (8 * bl.length - A) (Mk m (i + 1)) := by
  rw [Crc.crc_flip _ _ (by rw [hl]; exact hA), hl, h, Mk_succ m i hi, hb, if_pos rfl, Crc.it_xor, Crc.fl_shift _ _ _ hi hA, BitVec.xor_assoc]
theorem b1_keep {bl L : List (BitVec 8)} {m : BitVec 32} {A i : Nat} (hi : i < 32) (hb : m.getLsbD i = false) (h : Crc.crc L = Crc.crc bl ^^^ Crc.it (8 * bl.length - A) (Mk m i)) :
    Mk m (i + 1) = Mk m i ∧ Crc.crc L = Crc.crc bl ^^^ Crc.it (8 * bl.length - A) (Mk m (i + 1)) := by
  have e : Mk m (i + 1) = Mk m i := by rw [Mk_succ m i hi, hb, if_neg (by decide)]
  rw [e]; exact ⟨rfl, h⟩
theorem b1_end {bl L : List (BitVec 8)} {m : BitVec 32} {A i : Nat} (h : Crc.crc L = Crc.crc bl ^^^ Crc.it (8 * bl.length - A) (Mk m i)) :
    ((!(Mk m i == 0#32)) == (nv (Crc.crc L) == nv (Crc.crc bl))) = false := by
  by_cases hz : Mk m i = 0#32
  · rw [hz, Crc.it_zero] at h
    rw [hz, h]; simp
  · have h1 : (nv (Crc.crc L) == nv (Crc.crc bl)) = false := by
      apply beq_eq_false_iff_ne.2
      intro e
      have e := nv_inj e
      rw [h] at e
      apply hz
      apply Crc.it_inj0 (8 * bl.length - A)
      have := congrArg (Crc.crc bl ^^^ ·) e
      simpa [← BitVec.xor_assoc] using this
    rw [h1]; simp [hz]
/-- what holds at the head of the second loop -/
def B2 (w : World) (gx cx : Nat) (bl : List (BitVec 8)) (mo gk : Nat) (s12 s16 : Value) (wr : World) : Prop :=
  ∃ (i : Nat) (L : List (BitVec 8)), i + gk = mo ∧ s16 = .int .i64 i ∧ s12 = .int .i64 (nv (Crc.crc L)) ∧ L.length = bl.length ∧
    wr.ownsRow w.heap.size 5 1 (.slice (some ⟨gx, 0, none⟩) bl.length cx) bl.length (cells L) ∧ Bel w wr
theorem own_below {w w' : World} {B n : Nat} {v : Value} {xs : List Value} (h : w.ownsRow B 5 1 v n xs) (g : Below w.heap.size w w') : w'.ownsRow B 5 1 v n xs :=
  h.kept (row := none) ⟨g.os, g.tape, g.output, g.size, fun k hk _ => g.block k hk⟩ (by cases hv : v.ownBlock <;> simp)
theorem bits_walk (a0 a3 : Option Addr) (cap0 cap3 : Nat) (bl : List (BitVec 8)) (cs : List Int) (at' : Int) (m : BitVec 32) (w : World) (hb : Vw w a0 cap0 bl) (hc : Iw w a3 cap3 cs) :
    Calls Try.prog 5 #[.slice a0 bl.length cap0, .int .i64 at', .int .u32 (nv m), .slice a3 cs.length cap3] w fun e w' => e = .returned (.bool true) ∧ Below w.heap.size w w' := by
  have hbl := hb.len
  have hcl := hc.len
  unfold maxLen at hbl hcl
  have HV := Lib.hid hb
  have HC := Lib.hid hc
  clear hb hc
  obtain ⟨M, HM, hm0, hm1⟩ : ∃ X : Int, Hid (X = nv m) ∧ 0 ≤ X ∧ X < 4294967296 := ⟨_, rfl, nv_nonneg m, nv_lt32 m⟩
  rw [← HM.out]
  by_cases hn : 2000 < bl.length
  · have hn' : (2000 : Int) < (bl.length : Int) := by omega
    go_enter Try.func5, Try.ntmps5
    go_wp2_with fail
    refine (first_any _).mono ?_
    rintro e w1 ⟨rfl, hb1⟩
    go_wp2
    go_ret
    exact ⟨rfl, hb1⟩
  by_cases hz : bl.length ≤ 0
  · have hz' : ((bl.length : Int) == 0) = true := by simp; exact List.length_eq_zero_iff.1 (by omega)
    go_enter Try.func5, Try.ntmps5
    go_wp2_with fail
    refine (first_any _).mono ?_
    rintro e w1 ⟨rfl, hb1⟩
    go_wp2
    go_ret
    exact ⟨rfl, hb1⟩
  have hzb : ((bl.length : Int) == 0) = false := by simp; intro e; simp [e] at hz
  by_cases hmo : 20 < cs.length
  · have hmo' : (20 : Int) < (cs.length : Int) := by omega
    go_enter Try.func5, Try.ntmps5
    go_wp2_with fail
    refine (first_any _).mono ?_
    rintro e w1 ⟨rfl, hb1⟩
    go_wp2
    go_ret
    exact ⟨rfl, hb1⟩
  have hl5 : bl.length ≤ 100000 := by omega
  have hz' : (1 : Int) ≤ (bl.length : Int) := by omega
  obtain ⟨A, eA, hA⟩ := within at' bl.length (by omega)
  have hti : -(8 * (bl.length : Int)) < at'.tmod (8 * (bl.length : Int)) ∧ at'.tmod (8 * (bl.length : Int)) < 8 * (bl.length : Int) := by
    have := tmod_bd at' (8 * bl.length) (by omega); simpa using this
  obtain ⟨hti0, hti1⟩ := hti
  have EA := Lib.hid eA
  clear eA
  go_enter Try.func5, Try.ntmps5
  go_wp2_with fail
  refine (first_any _).mono ?_
  rintro e w1 ⟨rfl, hb1⟩
  go_upto_region 6 with (fail)
  rw [EA.out]
  clear hti0 hti1
  go_wp2_with (fail)
  refine (copy_n a0 cap0 _ bl w1 rfl (HV.out.below hb1 (Nat.le_refl _)) hl5).mono ?_
  rintro e w2 ⟨vx, rfl, hx, hb2⟩
  obtain ⟨gx, cx, rfl, hgx, hcx, hgx2⟩ := own_shape hx (by omega)
  have D2 : Bel w w2 := Bel.later hb1 hb2
  have hgw : w.heap.size ≤ gx := Nat.le_trans hb1.size hgx
  have HX2 := Lib.hid (own_base hx hb1.size)
  clear hx hb1 hb2
  go_wp2_with (fail)
  refine (of_any a0 cap0 _ bl w2 rfl (HV.out.below D2 (Nat.le_refl _)) hl5).mono ?_
  rintro e w3 ⟨rfl, hb3⟩
  have HX3 : Hid (w3.ownsRow w.heap.size 5 1 (.slice (some ⟨gx, 0, none⟩) bl.length cx) bl.length (cells bl)) := by
    have g : w2.grownBy w3 none := ⟨hb3.os, hb3.tape, hb3.output, hb3.size, fun k hk _ => hb3.block k hk⟩
    exact HX2.out.kept g (.inr (by simp [Value.ownBlock]))
  have D3 := Lib.hid (D2.later hb3)
  clear D2 hb3 HX2 hgx hgx2
  go_wp2_with (fail)
  go_loopg [12, 13, 14] 32 (fun gk s12 s13 s14 wr => B1 w gx cx bl m A gk s12 s13 s14 wr)
  case atStart => exact ⟨0, bl, rfl, by omega, rfl, rfl, by simp [Mk, tm], rfl, by simp [Mk, tm, Crc.it_zero], HX3.out, D3.out⟩
  case round =>
    clear HX3 D3
    obtain ⟨i, L, hig, hAi, rfl, rfl, rfl, hlL, hcr, hx, hd⟩ := hrel
    by_cases hgo : i < 32 ∧ A + i < 8 * bl.length
    · obtain ⟨h32, hin⟩ := hgo
      have hg1 : (i : Int) < 32 := by omega
      have hg2 : (A : Int) + (i : Int) < 8 * (bl.length : Int) := by omega
      have hbit := bit_spell m i
      rw [← HM.out] at hbit
      have HD := Lib.hid hd
      have HX := Lib.hid hx
      have HCR := Lib.hid hcr
      have HLL := Lib.hid hlL
      clear hd hx hcr hlL
      cases hb : m.getLsbD i with
      | true =>
        rw [hb, if_pos rfl] at hbit
        have HB := Lib.hid hb
        clear hb
        go_upto_region 14 with (fail)
        obtain ⟨K, eK, eK2⟩ : ∃ K : Nat, (A : Int) + (i : Int) = (K : Int) ∧ Hid (K = A + i) := ⟨A + i, by omega, rfl⟩
        rw [eK]
        have EK := Lib.hid eK
        clear eK
        have hK : K < 8 * bl.length := by have := eK2.out; omega
        have hcK : wr.cell? ⟨gx, K / 8, none⟩ = some (.int .u8 (nv (L[K / 8]?.getD 0#8))) := by
          rw [HX.out.cellAt (K / 8) (by omega), cells_get, List.getElem?_eq_getElem (by rw [HLL.out]; omega)]; rfl
        have hfK := HX.out.frozenAt (K / 8)
        have hx4 := (HX.out.stored (K / 8) (.int .u8 (nv ((L[K / 8]?.getD 0#8) ^^^ (1#8 <<< (K % 8)))))).1
        rw [← flip_cells] at hx4
        have HX4 := Lib.hid hx4
        have D4 : Hid (Bel w (wr.setCell ⟨gx, K / 8, none⟩ (.int .u8 (nv ((L[K / 8]?.getD 0#8) ^^^ (1#8 <<< (K % 8))))))) := Below.setCell HD.out hgw _
        clear hx4
        go_upto_region 15 with (fail)
        rw [turn_spell _ K _ rfl]
        obtain ⟨w4, hw4⟩ : ∃ w4, wr.setCell ⟨gx, K / 8, none⟩ (.int .u8 (nv ((L[K / 8]?.getD 0#8) ^^^ (1#8 <<< (K % 8))))) = w4 := ⟨_, rfl⟩
        rw [hw4] at HX4 D4 ⊢
        clear hw4 hcK hfK
        go_wp2_with (fail)
        refine (flipped_any bl.length K w4 (by omega) hK).mono ?_
        rintro e w5 ⟨rfl, hb5⟩
        have HX5 := Lib.hid (own_below HX4.out hb5)
        have D5 := Lib.hid (D4.out.later hb5)
        have hcf : Hid (Crc.crc (Crc.flip L K) = Crc.crc L ^^^ Crc.fl bl.length K) := by unfold Hid; rw [Crc.crc_flip _ _ (by rw [HLL.out]; exact hK), HLL.out]
        have hlf : Hid ((Crc.flip L K).length = bl.length) := (Crc.flip_length L K).trans HLL.out
        clear hb5
        go_wp2
        go_roundg (gk - 1)
        case measure => omega
        case rel =>
          refine ⟨i + 1, Crc.flip L K, by omega, by omega, by go_num, by rw [xor64, hcf.out], by rw [Mk_ne m i h32 HB.out]; rfl, hlf.out, ?_, HX5.out, D5.out⟩
          rw [eK2.out]
          exact b1_flip h32 hin HLL.out HB.out HCR.out
      | false =>
        rw [hb, if_neg (by decide)] at hbit
        have HB := Lib.hid hb
        clear hb
        have hk := b1_keep h32 HB.out HCR.out
        go_wp2
        go_roundg (gk - 1)
        case measure => omega
        case rel => exact ⟨i + 1, L, by omega, by omega, by go_num, rfl, by rw [hk.1], HLL.out, hk.2, HX.out, HD.out⟩
    · have hVend := b1_end hcr
      obtain ⟨Sb, hSb⟩ : ∃ S : Bool, (!(Mk m i == 0#32)) = S := ⟨_, rfl⟩
      obtain ⟨V, hV⟩ : ∃ V, nv (Crc.crc L) = V := ⟨_, rfl⟩
      obtain ⟨Vb, hVb⟩ : ∃ V, nv (Crc.crc bl) = V := ⟨_, rfl⟩
      rw [hSb, hV, hVb] at hVend
      rw [hSb, hV]
      have HVe := Lib.hid hVend
      have HVV := Lib.hid hV
      have HVb := Lib.hid hVb
      have HD := Lib.hid hd
      have HX := Lib.hid hx
      have HLL := Lib.hid hlL
      clear hcr hd hx hlL hVend hV hVb hSb
      by_cases h32 : i < 32
      · have hgo1 : (i : Int) < 32 := by omega
        have hgo2 : 8 * (bl.length : Int) ≤ (A : Int) + (i : Int) := by omega
        clear hgo
        go_upto_region 17 with (fail)
        go_wp2_with (fail)
        refine (of_any _ _ _ L wr HLL.out.symm (Vw.of_own HX.out).2 (by rw [HLL.out]; exact hl5)).mono ?_
        rintro e w5 ⟨rfl, hb5⟩
        rw [HVV.out]
        have HX5 := Lib.hid (own_below HX.out hb5)
        have D5 := Lib.hid (HD.out.later hb5)
        clear hb5
        go_wp2_with (fail)
        refine (of_any a0 cap0 _ bl w5 rfl (HV.out.below D5.out (Nat.le_refl _)) hl5).mono ?_
        rintro e w6 ⟨rfl, hb6⟩
        rw [HVb.out]
        have HX6 := Lib.hid (own_below HX5.out hb6)
        have D6 := Lib.hid (D5.out.later hb6)
        have hVe := HVe.out
        clear hb6 HX5 HX D5 HD
        go_wp2_with (fail)
        clear hVe
        obtain ⟨Lw, hLw⟩ : ∃ Lw, Hid (Lw = L) := ⟨L, rfl⟩
        go_loopg [12, 16] cs.length (fun gk s12 s16 wr => B2 w gx cx bl cs.length gk s12 s16 wr)
        case atStart => exact ⟨0, L, by omega, rfl, by rw [HVV.out], HLL.out, HX6.out, D6.out⟩
        case round =>
          clear HX6 D6 HLL HVV HVe HVb hLw Lw
          obtain ⟨i2, L, hig2, rfl, rfl, hlL, hx, hd⟩ := hrel
          have HX := Lib.hid hx
          have HD := Lib.hid hd
          have HLL := Lib.hid hlL
          clear hx hd hlL
          by_cases hlt : i2 < cs.length
          · obtain ⟨c, hci⟩ : ∃ c, cs[i2]? = some c := ⟨_, List.getElem?_eq_getElem hlt⟩
            obtain ⟨bb, off, hbo, hcell⟩ := (HC.out.below HD.out (Nat.le_refl _)).at hci
            have hat := fun w' => run_at23 w' a3 bb off cs.length cap3 hbo i2 i2 rfl hlt
            obtain ⟨K, eK, hK0⟩ := within c bl.length (by omega)
            have htj : -(8 * (bl.length : Int)) < c.tmod (8 * (bl.length : Int)) ∧ c.tmod (8 * (bl.length : Int)) < 8 * (bl.length : Int) := by
              have := tmod_bd c (8 * bl.length) (by omega); simpa using this
            obtain ⟨htj0, htj1⟩ := htj
            have EK := Lib.hid eK
            clear eK
            go_upto_region 23 with (fail)
            rw [EK.out]
            clear htj0 htj1 hat hcell hbo hci
            have hK : K < 8 * bl.length := hK0
            have hcK : wr.cell? ⟨gx, K / 8, none⟩ = some (.int .u8 (nv (L[K / 8]?.getD 0#8))) := by
              rw [HX.out.cellAt (K / 8) (by omega), cells_get, List.getElem?_eq_getElem (by rw [HLL.out]; omega)]; rfl
            have hfK := HX.out.frozenAt (K / 8)
            have hx4 := (HX.out.stored (K / 8) (.int .u8 (nv ((L[K / 8]?.getD 0#8) ^^^ (1#8 <<< (K % 8)))))).1
            rw [← flip_cells] at hx4
            have HX4 := Lib.hid hx4
            have D4 : Hid (Bel w (wr.setCell ⟨gx, K / 8, none⟩ (.int .u8 (nv ((L[K / 8]?.getD 0#8) ^^^ (1#8 <<< (K % 8))))))) := Below.setCell HD.out hgw _
            clear hx4
            go_upto_region 24 with (fail)
            rw [turn_spell _ K _ rfl]
            obtain ⟨w4, hw4⟩ : ∃ w4, wr.setCell ⟨gx, K / 8, none⟩ (.int .u8 (nv ((L[K / 8]?.getD 0#8) ^^^ (1#8 <<< (K % 8))))) = w4 := ⟨_, rfl⟩
            rw [hw4] at HX4 D4 ⊢
            clear hw4 hcK hfK
            go_wp2_with (fail)
            refine (flipped_any bl.length K w4 (by omega) hK).mono ?_
            rintro e w5 ⟨rfl, hb5⟩
            have HX5 := Lib.hid (own_below HX4.out hb5)
            have D5 := Lib.hid (D4.out.later hb5)
            have hcf : Hid (Crc.crc (Crc.flip L K) = Crc.crc L ^^^ Crc.fl bl.length K) := by unfold Hid; rw [Crc.crc_flip _ _ (by rw [HLL.out]; exact hK), HLL.out]
            have hlf : Hid ((Crc.flip L K).length = bl.length) := (Crc.flip_length L K).trans HLL.out
            clear hb5
            go_wp2
            go_roundg (gk - 1)
            case measure => omega
            case rel => exact ⟨i2 + 1, Crc.flip L K, by omega, by go_num, by rw [xor64, hcf.out], hlf.out, HX5.out, D5.out⟩
          · obtain ⟨V, hV⟩ : ∃ V, nv (Crc.crc L) = V := ⟨_, rfl⟩
            rw [hV]
            have HVV := Lib.hid hV
            clear hV
            go_wp2_with (fail)
            refine (of_any _ _ _ L wr HLL.out.symm (Vw.of_own HX.out).2 (by rw [HLL.out]; exact hl5)).mono ?_
            rintro e w5 ⟨rfl, hb5⟩
            rw [HVV.out]
            have D5 := Lib.hid (HD.out.later hb5)
            clear hb5
            go_wp2
            go_ret
            exact ⟨rfl, D5.out⟩
      · have hgo1 : (32 : Int) ≤ (i : Int) := by omega
        clear hgo
        go_upto_region 17 with (fail)
        go_wp2_with (fail)
        refine (of_any _ _ _ L wr HLL.out.symm (Vw.of_own HX.out).2 (by rw [HLL.out]; exact hl5)).mono ?_
        rintro e w5 ⟨rfl, hb5⟩
        rw [HVV.out]
        have HX5 := Lib.hid (own_below HX.out hb5)
        have D5 := Lib.hid (HD.out.later hb5)
        clear hb5
        go_wp2_with (fail)
        refine (of_any a0 cap0 _ bl w5 rfl (HV.out.below D5.out (Nat.le_refl _)) hl5).mono ?_
        rintro e w6 ⟨rfl, hb6⟩
        rw [HVb.out]
        have HX6 := Lib.hid (own_below HX5.out hb6)
        have D6 := Lib.hid (D5.out.later hb6)
        have hVe := HVe.out
        clear hb6 HX5 HX D5 HD
        go_wp2_with (fail)
        clear hVe
        obtain ⟨Lw, hLw⟩ : ∃ Lw, Hid (Lw = L) := ⟨L, rfl⟩
        go_loopg [12, 16] cs.length (fun gk s12 s16 wr => B2 w gx cx bl cs.length gk s12 s16 wr)
        case atStart => exact ⟨0, L, by omega, rfl, by rw [HVV.out], HLL.out, HX6.out, D6.out⟩
        case round =>
          clear HX6 D6 HLL HVV HVe HVb hLw Lw
          obtain ⟨i2, L, hig2, rfl, rfl, hlL, hx, hd⟩ := hrel
          have HX := Lib.hid hx
          have HD := Lib.hid hd
          have HLL := Lib.hid hlL
          clear hx hd hlL
          by_cases hlt : i2 < cs.length
          · obtain ⟨c, hci⟩ : ∃ c, cs[i2]? = some c := ⟨_, List.getElem?_eq_getElem hlt⟩
            obtain ⟨bb, off, hbo, hcell⟩ := (HC.out.below HD.out (Nat.le_refl _)).at hci
            have hat := fun w' => run_at23 w' a3 bb off cs.length cap3 hbo i2 i2 rfl hlt
            obtain ⟨K, eK, hK0⟩ := within c bl.length (by omega)
            have htj : -(8 * (bl.length : Int)) < c.tmod (8 * (bl.length : Int)) ∧ c.tmod (8 * (bl.length : Int)) < 8 * (bl.length : Int) := by
              have := tmod_bd c (8 * bl.length) (by omega); simpa using this
            obtain ⟨htj0, htj1⟩ := htj
            have EK := Lib.hid eK
            clear eK
            go_upto_region 23 with (fail)
            rw [EK.out]
            clear htj0 htj1 hat hcell hbo hci
            have hK : K < 8 * bl.length := hK0
            have hcK : wr.cell? ⟨gx, K / 8, none⟩ = some (.int .u8 (nv (L[K / 8]?.getD 0#8))) := by
              rw [HX.out.cellAt (K / 8) (by omega), cells_get, List.getElem?_eq_getElem (by rw [HLL.out]; omega)]; rfl
            have hfK := HX.out.frozenAt (K / 8)
            have hx4 := (HX.out.stored (K / 8) (.int .u8 (nv ((L[K / 8]?.getD 0#8) ^^^ (1#8 <<< (K % 8)))))).1
            rw [← flip_cells] at hx4
            have HX4 := Lib.hid hx4
            have D4 : Hid (Bel w (wr.setCell ⟨gx, K / 8, none⟩ (.int .u8 (nv ((L[K / 8]?.getD 0#8) ^^^ (1#8 <<< (K % 8))))))) := Below.setCell HD.out hgw _
            clear hx4
            go_upto_region 24 with (fail)
            rw [turn_spell _ K _ rfl]
            obtain ⟨w4, hw4⟩ : ∃ w4, wr.setCell ⟨gx, K / 8, none⟩ (.int .u8 (nv ((L[K / 8]?.getD 0#8) ^^^ (1#8 <<< (K % 8))))) = w4 := ⟨_, rfl⟩
            rw [hw4] at HX4 D4 ⊢
            clear hw4 hcK hfK
            go_wp2_with (fail)
            refine (flipped_any bl.length K w4 (by omega) hK).mono ?_
            rintro e w5 ⟨rfl, hb5⟩
            have HX5 := Lib.hid (own_below HX4.out hb5)
            have D5 := Lib.hid (D4.out.later hb5)
            have hcf : Hid (Crc.crc (Crc.flip L K) = Crc.crc L ^^^ Crc.fl bl.length K) := by unfold Hid; rw [Crc.crc_flip _ _ (by rw [HLL.out]; exact hK), HLL.out]
            have hlf : Hid ((Crc.flip L K).length = bl.length) := (Crc.flip_length L K).trans HLL.out
            clear hb5
            go_wp2
            go_roundg (gk - 1)
            case measure => omega
            case rel => exact ⟨i2 + 1, Crc.flip L K, by omega, by go_num, by rw [xor64, hcf.out], hlf.out, HX5.out, D5.out⟩
          · obtain ⟨V, hV⟩ : ∃ V, nv (Crc.crc L) = V := ⟨_, rfl⟩
            rw [hV]
            have HVV := Lib.hid hV
            clear hV
            go_wp2_with (fail)
            refine (of_any _ _ _ L wr HLL.out.symm (Vw.of_own HX.out).2 (by rw [HLL.out]; exact hl5)).mono ?_
            rintro e w5 ⟨rfl, hb5⟩
            rw [HVV.out]
            have D5 := Lib.hid (HD.out.later hb5)
            clear hb5
            go_wp2
            go_ret
            exact ⟨rfl, D5.out⟩
end Go.Proofs.Ytmfkfheakahckaa
