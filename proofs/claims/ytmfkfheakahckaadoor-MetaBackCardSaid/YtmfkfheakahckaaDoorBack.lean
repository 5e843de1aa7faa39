/- The walk of shalelaw12.MetaBack: true, for all arguments. -/
import Derived.Test.YtmfkfheakahckaaDoorSaysLow
import Derived.Deep.DeepCutAuto
set_option linter.unusedVariables false
namespace Go.Proofs.YtmfkfheakahckaaDoor
open Go.RowKit
theorem pow8_nv (k : Nat) : (2 : Int) ^ k % 256 = nv (1#8 <<< k) := by
  unfold nv
  rw [BitVec.toNat_shiftLeft, Nat.shiftLeft_eq]
  simp
theorem xor8' (x y : BitVec 8) : bits .xor .u8 (nv x) (nv y) = nv (x ^^^ y) := xor8 x y
theorem flip_cells (bl : List (BitVec 8)) (I : Nat) : cells (Crc.flip bl I) = (cells bl).set (I / 8) (.int .u8 (nv ((bl[I / 8]?.getD 0#8) ^^^ (1#8 <<< (I % 8))))) := cells_set _ _ _
theorem turn_spell (c : BitVec 8) (I : Nat) (k : Nat) (hk : k = I % 8) : bits .xor .u8 (nv c) (2 ^ k % 256) = nv (c ^^^ (1#8 <<< (I % 8))) := by rw [hk, pow8_nv, xor8]
theorem tmod_bd (a : Int) (n : Nat) (hn : 0 < n) : -(n : Int) < a.tmod n ∧ a.tmod n < n := by
  constructor
  · have := Int.lt_tmod_of_pos a (show (0 : Int) < n by omega); simpa using this
  · exact Int.tmod_lt_of_pos a (by omega)
theorem within (a : Int) (n : Nat) (hn : 0 < n) : ∃ A : Nat, (a.tmod (8 * (n : Int)) + 8 * (n : Int)) % (8 * (n : Int)) = (A : Int) ∧ A < 8 * n := by
  have h0 := Int.emod_nonneg (a.tmod (8 * (n : Int)) + 8 * (n : Int)) (show 8 * (n : Int) ≠ 0 by omega)
  have h1 := Int.emod_lt_of_pos (a.tmod (8 * (n : Int)) + 8 * (n : Int)) (show 0 < 8 * (n : Int) by omega)
  exact ⟨((a.tmod (8 * (n : Int)) + 8 * (n : Int)) % (8 * (n : Int))).toNat, by omega, by omega⟩
theorem copy_own2 {a : Option Addr} {cap n k : Nat} {l : List (BitVec 8)} {w : World} (hn : n = l.length) (hk : k = l.length) (hv : Vw w a cap l) (hl : l.length ≤ 100000) (h0 : 0 < l.length) : Calls Tryd.prog 10 #[.slice a n cap] w (CopyB k l w) := by
  have := copy_own hn hv hl h0
  rwa [show n = k from hn.trans hk.symm] at this ⊢
def ZerC (l : List (BitVec 8)) (w : World) (e : Ending) (w' : World) : Prop := ∃ z : Nat, e = .returned (.int .i64 (z : Int)) ∧ 37 ≤ z ∧ w = w'
theorem zer_call {m : Nat → Int} {a : Option Addr} {cap : Nat} {l : List (BitVec 8)} {w : World} (hm : May m) (hv : Vw w a cap (recb m l)) :
    Calls Tryd.prog 15 #[.slice a 24 cap] w (ZerC l w) :=
  (zeros_any a cap 24 ((recb m l).take 24) w (by rw [List.length_take, recb_length]; rfl) (hv.take 24) (by rw [List.length_take, recb_length]; decide)).mono fun e w' h => ⟨_, h.1, zero_rec hm l, h.2⟩
set_option maxHeartbeats 4000000 in
theorem back_long (m : Nat → Int) (a : Option Addr) (cap : Nat) (l : List (BitVec 8)) (bit : Int) (x : Addr) (w : World) (hS : Sent w (sen x)) (hv : Vw w a cap l) (h1 : 2000 < l.length) :
    Calls Tryd.prog 4 #[rv m, .slice a l.length cap, .int .i64 bit] w (RetT w) := by
  have HS := Lib.hid hS
  have V := Lib.hid hv
  have J0 := Lib.hid (K1.new w m)
  clear hS hv
  have h1I : (2000 : Int) < (l.length : Int) := by omega
  go_enter Tryd.func4, Tryd.ntmps4
  go_wp2_with fail
  (with_reducible refine (first_call (J0.out.sent HS.out)).mono ?_)
  rintro e w1 ⟨rfl, b1⟩
  have k1 := J0.out.step b1
  clear b1
  obtain ⟨p0, p1, p2, p3, p4, p5⟩ := k1.1.six
  have J1 := Lib.hid k1
  clear k1
  go_wp2
  go_ret
  exact ⟨rfl, J1.out.2.1⟩
set_option maxHeartbeats 4000000 in
theorem back_no (m : Nat → Int) (a : Option Addr) (cap : Nat) (l : List (BitVec 8)) (bit : Int) (x : Addr) (w : World) (hS : Sent w (sen x)) (hv : Vw w a cap l) (h1 : ¬ 2000 < l.length) (hm : ¬ May m) :
    Calls Tryd.prog 4 #[rv m, .slice a l.length cap, .int .i64 bit] w (RetT w) := by
  have HS := Lib.hid hS
  have V := Lib.hid hv
  have J0 := Lib.hid (K1.new w m)
  clear hS hv
  have h1I : ¬ (2000 : Int) < (l.length : Int) := by omega
  have l1 : Hid (l.length ≤ 100000) := Lib.hid (by omega)
  have e1 := neq_nn
  have e2 := neq_sn x
  have HM := Lib.hid hm
  clear hm
  go_enter Tryd.func4, Tryd.ntmps4
  go_wp2_with fail
  (with_reducible refine (first_call (J0.out.sent HS.out)).mono ?_)
  rintro e w1 ⟨rfl, b1⟩
  have k1 := J0.out.step b1
  clear b1
  obtain ⟨p0, p1, p2, p3, p4, p5⟩ := k1.1.six
  have J1 := Lib.hid k1
  clear k1
  go_wp2_with fail
  clear p0 p1 p2 p3 p4 p5
  (with_reducible refine (bytes_no HM.out rfl (J1.out.vw V.out) l1.out (J1.out.sent HS.out)).mono ?_)
  rintro e w2 ⟨rfl, b2⟩
  have k2 := J1.out.step b2
  clear b2
  obtain ⟨p0, p1, p2, p3, p4, p5⟩ := k2.1.six
  have J2 := Lib.hid k2
  clear k2
  go_wp2_with fail
  clear p0 p1 p2 p3 p4 p5
  (with_reducible refine (may_f HM.out _).mono ?_)
  rintro e w3 ⟨rfl, b3⟩
  have k3 := J2.out.step b3
  clear b3
  obtain ⟨p0, p1, p2, p3, p4, p5⟩ := k3.1.six
  have J3 := Lib.hid k3
  clear k3
  go_wp2
  go_ret
  exact ⟨rfl, J3.out.2.1⟩
set_option maxHeartbeats 4000000 in
theorem back_nil (m : Nat → Int) (l : List (BitVec 8)) (hl0 : Hid (l = [])) (bit : Int) (x : Addr) (w : World) (hS : Sent w (sen x)) (hm : May m) :
    Calls Tryd.prog 4 #[rv m, .slice none 0 0, .int .i64 bit] w (RetT w) := by
  have HS := Lib.hid hS
  have V : Hid (Vw w none 0 l) := Lib.hid (by rw [hl0.out]; exact Vw.nil w)
  have HL0 : Hid (0 = l.length) := Lib.hid (by rw [hl0.out]; rfl)
  have h1 : l.length ≤ 0 := by rw [hl0.out]; decide
  have J0 := Lib.hid (K1.new w m)
  clear hS
  have l1 : Hid (l.length ≤ 100000) := Lib.hid (by omega)
  have e1 := neq_nn
  have e2 := neq_sn x
  have HM := Lib.hid hm
  clear hm
  have e3 := eql_nn
  have e4 := eql_ss x
  have HGood := Lib.hid (good_rec HM.out l)
  have HSame := Lib.hid (same_rec HM.out l)
  obtain ⟨n, HN⟩ : ∃ n : Nat, Hid (n = 32 + l.length) := ⟨_, Lib.hid rfl⟩
  have hn1 : 32 ≤ n := by have := HN.out; omega
  have hn2 : n ≤ 2032 := by have := HN.out; omega
  have hn1I : (32 : Int) ≤ (n : Int) := by omega
  have hn2I : (n : Int) ≤ 2032 := by omega
  obtain ⟨I, eI, hI⟩ := within bit n (by omega)
  have hti : -(8 * (n : Int)) < bit.tmod (8 * (n : Int)) ∧ bit.tmod (8 * (n : Int)) < 8 * (n : Int) := by
    have := tmod_bd bit (8 * n) (by omega); simpa using this
  obtain ⟨hti0, hti1⟩ := hti
  have EI := Lib.hid eI
  clear eI
  have HBad : Hid (¬ Good ((Crc.flip (recb m l ++ l) I).take 32) ((Crc.flip (recb m l ++ l) I).drop 32)) := Lib.hid (flip_bad m l I (by rw [← HN.out]; exact hI))
  have HNR : Hid (n = (recb m l).length) := Lib.hid (by rw [recb_length, HN.out, ← HL0.out])
  clear h1
  have HFL : Hid ((Crc.flip (recb m l ++ l) I).length = n) := Lib.hid (by rw [Crc.flip_length, List.length_append, recb_length]; exact HN.out.symm)
  go_enter Tryd.func4, Tryd.ntmps4
  go_wp2_with fail
  (with_reducible refine (first_call (J0.out.sent HS.out)).mono ?_)
  rintro e w1 ⟨rfl, b1⟩
  have k1 := J0.out.step b1
  clear b1
  obtain ⟨p0, p1, p2, p3, p4, p5⟩ := k1.1.six
  have J1 := Lib.hid k1
  clear k1
  go_wp2_with fail
  clear p0 p1 p2 p3 p4 p5
  (with_reducible refine (bytes_yes HM.out HL0.out (J1.out.vw V.out) l1.out (J1.out.sent HS.out)).mono ?_)
  rintro e w2 ⟨g, capx, rfl, hcx, vx, b2, _, _⟩
  have k2 := J1.out.step b2
  have X2 := Lib.hid vx
  have hcx' : 24 ≤ capx := by omega
  have hcxI : (24 : Int) ≤ (capx : Int) := by omega
  clear b2 vx
  have J2 := Lib.hid k2
  clear k2
  go_wp2_with fail
  (with_reducible refine (open_yes HGood.out (recb_length _ _).symm HL0.out X2.out (J2.out.vw V.out) (by rw [recb_length]; decide) l1.out (J2.out.sent HS.out)).mono ?_)
  rintro e w3 ⟨rfl, b3⟩
  have k3 := J2.out.step b3
  have X3 : Hid (Vw (w3.alloc (mobj (mOf (recb m l)))) (some ⟨g, 0, none⟩) capx (recb m l)) := Lib.hid ((X2.out.below b3 (Nat.le_refl _)).alloc _)
  clear b3
  obtain ⟨p0, p1, p2, p3, p4, p5⟩ := k3.1.six
  have hlt := k3.2.2
  have J3 : Hid (K1 w (w3.alloc (mobj (mOf (recb m l)))) m) := Lib.hid (k3.alloc _)
  clear k3
  go_wp2_with fail
  clear p0 p1 p2 p3 p4 p5
  (with_reducible refine (same_t HSame.out _).mono ?_)
  rintro e w4 ⟨rfl, b4⟩
  have J4 := Lib.hid (J3.out.step b4)
  have X4 : Hid (Vw w4 (some ⟨g, 0, none⟩) capx (recb m l)) := Lib.hid (X3.out.below b4 (Nat.le_refl _))
  clear b4
  go_wp2_with fail
  (with_reducible refine (zer_call HM.out X4.out).mono ?_)
  rintro e w5 ⟨z, rfl, hz, rfl⟩
  have hzI : ¬ ((z : Int) < 37) := by omega
  go_wp2_with fail
  clear hz hzI
  (with_reducible refine (copy_own2 (recb_length m l).symm HNR.out X4.out (by rw [recb_length]; decide) (by rw [recb_length]; decide)).mono ?_)
  rintro e w5 ⟨gc, capc, rfl, O5, b5, hgc⟩
  have HO5 := Lib.hid O5
  have HB5 := Lib.hid b5
  clear O5 b5
  obtain ⟨i0, hi, hz0, hz1, hz2⟩ := info_parts Tryd.info5
  have hnc : n ≤ capc := by
    obtain ⟨_, _, hh, _, hle, _⟩ := own_shape HO5.out (by omega)
    cases hh
    exact hle
  go_upto_region 12 with (fail)
  have hO6 : w5.ownsRow w4.heap.size 5 1 (.slice (some ⟨gc, 0, none⟩) n capc) n (cells (recb m l ++ l)) := by
    have e : recb m l ++ l = recb m l := by
      have h := hl0.out
      rw [show recb m l ++ l = recb m l ++ [] from by rw [h], List.append_nil]
    rw [e]; exact HO5.out
  have B6 := HB5
  clear hi hz0 hz1 hz2
  obtain ⟨ga, capa, hva, hga, hca, hgl⟩ := own_shape hO6 (by omega)
  obtain ⟨rfl, rfl⟩ : ga = gc ∧ capa = capc := by cases hva; exact ⟨rfl, rfl⟩
  clear hva
  have O6 := Lib.hid hO6
  have J6 := Lib.hid (J4.out.step B6.out)
  have hwga : w.heap.size ≤ ga := Nat.le_trans J4.out.2.1.size hga
  clear hO6 hgc
  rw [EI.out]
  clear hti0 hti1
  have hcI : w5.cell? ⟨ga, I / 8, none⟩ = some (.int .u8 (nv ((recb m l ++ l)[I / 8]?.getD 0#8))) := by
    have h8 : I / 8 < (recb m l ++ l).length := by rw [List.length_append, recb_length, ← HN.out]; omega
    rw [O6.out.cellAt (I / 8) (by omega), cells_get, List.getElem?_eq_getElem h8]; rfl
  have hfI := O6.out.frozenAt (I / 8)
  have hx3 := (O6.out.stored (I / 8) (.int .u8 (nv (((recb m l ++ l)[I / 8]?.getD 0#8) ^^^ (1#8 <<< (I % 8)))))).1
  rw [← flip_cells] at hx3
  have HX3 := Lib.hid hx3
  have J7 : Hid (Below w.heap.size w (w5.setCell ⟨ga, I / 8, none⟩ (.int .u8 (nv (((recb m l ++ l)[I / 8]?.getD 0#8) ^^^ (1#8 <<< (I % 8))))))) := Lib.hid (J6.out.2.1.setCell hwga _)
  clear hx3
  have hI8 : I / 8 < n := by omega
  have hI8I : ((I / 8 : Nat) : Int) < (n : Int) := by omega
  go_upto_region 13 with (fail)
  rw [turn_spell _ I _ rfl]
  obtain ⟨w7, hw7⟩ : ∃ w7, w5.setCell ⟨ga, I / 8, none⟩ (.int .u8 (nv (((recb m l ++ l)[I / 8]?.getD 0#8) ^^^ (1#8 <<< (I % 8))))) = w7 := ⟨_, rfl⟩
  rw [hw7] at HX3 J7 ⊢
  clear hw7 hcI hfI
  have X7 := Lib.hid (Vw.of_own HX3.out).2
  obtain ⟨au, HAU⟩ : ∃ au, Hid (au = sla (some ⟨ga, 0, none⟩) capa 32) := ⟨_, Lib.hid rfl⟩
  have U7 : Hid (Vw w7 au (capa - 32) ((Crc.flip (recb m l ++ l) I).drop 32)) := Lib.hid (by
    have := X7.out.piece 32 (n - 32) (by rw [HFL.out]; omega)
    rw [List.take_of_length_le (by rw [List.length_drop, HFL.out]; exact Nat.le_refl _), ← HAU.out] at this
    exact this)
  have cs1 : ∀ w', (Instr.slice 24 (.slice (some ⟨ga, 0, none⟩) n capa) none (some (.int .i64 32)) none).run Tryd.prog w' = .ok (.slice (some ⟨ga, 0, none⟩) 32 capa) w' := fun w' => by
    have := run_head w' (some ⟨ga, 0, none⟩) n capa 32 (by omega)
    rwa [sla_0 _ _ (by omega)] at this
  have cs2 : ∀ w', (Instr.slice 24 (.slice (some ⟨ga, 0, none⟩) n capa) (some (.int .i64 32)) none none).run Tryd.prog w' = .ok (.slice au (n - 32) (capa - 32)) w' := fun w' => by
    have := run_tail w' (some ⟨ga, 0, none⟩) n capa 32 (by omega)
    rwa [← HAU.out] at this
  have S7 : Hid (Sent w7 (sen x)) := Lib.hid (HS.out.below J7.out HS.out.2)
  have OC : Hid (∀ wx, Bel w7 wx → Calls Tryd.prog 11 #[.slice (some ⟨ga, 0, none⟩) 32 capa, .slice au (n - 32) (capa - 32)] wx (Gave (.tuple #[rv (fun _ => 0), sen x]) wx)) := Lib.hid (fun wx h =>
    open_no HBad.out (by rw [List.length_take, HFL.out]; omega) (by rw [List.length_drop, HFL.out]) ((X7.out.take 32).below h (Nat.le_refl _)) (U7.out.below h (Nat.le_refl _)) (by rw [List.length_take]; omega) (by rw [List.length_drop, HFL.out]; omega) (S7.out.below h S7.out.2))
  have D0 : Bel w7 w7.drew := (Below.refl _ _).drew
  have D1 : Bel (w7.alloc zobj) (w7.alloc zobj).drew := (Below.refl _ _).drew
  have B1 : Hid (∀ wx, Bel (w7.alloc zobj) wx → Bel w7 wx) := Lib.hid (fun wx h => ((Below.refl _ _).alloc (Nat.le_refl _) zobj).trans (h.mono (by simp)))
  have F : Hid (∀ wx, Bel w7 wx → wx.cell? ⟨0, 0, none⟩ = some (sen x) ∧ 0 < wx.heap.size ∧ Below w.heap.size w wx) := Lib.hid (fun wx h => ⟨(S7.out.below h S7.out.2).1, (S7.out.below h S7.out.2).2, J7.out.trans (h.mono J7.out.size)⟩)
  have hp0 : ¬ w7.heap.size = 0 := by have := S7.out.2; omega
  have hp1 : ¬ 0 = w7.heap.size := by omega
  have hw7 : Hid (w.heap.size ≤ w7.heap.size) := Lib.hid J7.out.size
  go_wp2_with fail
  go_region_held3 (fun _ => True) (trivial)
    (first
      | (go_at_call 11; (with_reducible refine (OC.out _ D0).mono ?_); rintro e w8 ⟨rfl, b8⟩; obtain ⟨hs, hp, h8⟩ := F.out _ (D0.trans (b8.mono D0.size)); have H8 := Lib.hid h8; clear h8 b8 D0)
      | (go_at_call 11; (with_reducible refine (OC.out _ (B1.out _ D1)).mono ?_); rintro e w8 ⟨rfl, b8⟩; have D8 : Bel (w7.alloc zobj) w8 := D1.trans (b8.mono D1.size); obtain ⟨hs, hp, h8⟩ := F.out _ (B1.out _ D8); have H8 := Lib.hid h8; have Z := (blk_new w7).far D8 (by simp); obtain ⟨c0, c1, c2, c3, c4, c5⟩ := Z.rec.six; have f0 := Z.free 0; have f1 := Z.free 1; have f2 := Z.free 2; have f3 := Z.free 3; have f4 := Z.free 4; have f5 := Z.free 5; clear h8 b8 D1 D8 Z))
  all_goals
    clear cs1 cs2
    go_wp2
    go_ret
    refine ⟨rfl, ?_⟩
    first
      | with_reducible exact H8.out.alloc H8.out.size _
      | exact (((((H8.out.setCell hw7.out _).setCell hw7.out _).setCell hw7.out _).setCell hw7.out _).setCell hw7.out _).setCell hw7.out _
set_option maxHeartbeats 4000000 in
theorem back_yes (m : Nat → Int) (a : Option Addr) (cap : Nat) (l : List (BitVec 8)) (bit : Int) (x : Addr) (w : World) (hS : Sent w (sen x)) (hv : Vw w a cap l) (h1 : ¬ 2000 < l.length) (hm : May m) (ad : Addr) (ha : Hid (a = some ad)) :
    Calls Tryd.prog 4 #[rv m, .slice a l.length cap, .int .i64 bit] w (RetT w) := by
  have HS := Lib.hid hS
  have V := Lib.hid hv
  have J0 := Lib.hid (K1.new w m)
  clear hS hv
  have h1I : ¬ (2000 : Int) < (l.length : Int) := by omega
  have l1 : Hid (l.length ≤ 100000) := Lib.hid (by omega)
  have e1 := neq_nn
  have e2 := neq_sn x
  have HM := Lib.hid hm
  clear hm
  have e3 := eql_nn
  have e4 := eql_ss x
  have HGood := Lib.hid (good_rec HM.out l)
  have HSame := Lib.hid (same_rec HM.out l)
  obtain ⟨n, HN⟩ : ∃ n : Nat, Hid (n = 32 + l.length) := ⟨_, Lib.hid rfl⟩
  have hn1 : 32 ≤ n := by have := HN.out; omega
  have hn2 : n ≤ 2032 := by have := HN.out; omega
  have hn1I : (32 : Int) ≤ (n : Int) := by omega
  have hn2I : (n : Int) ≤ 2032 := by omega
  obtain ⟨I, eI, hI⟩ := within bit n (by omega)
  have hti : -(8 * (n : Int)) < bit.tmod (8 * (n : Int)) ∧ bit.tmod (8 * (n : Int)) < 8 * (n : Int) := by
    have := tmod_bd bit (8 * n) (by omega); simpa using this
  obtain ⟨hti0, hti1⟩ := hti
  have EI := Lib.hid eI
  clear eI
  have HBad : Hid (¬ Good ((Crc.flip (recb m l ++ l) I).take 32) ((Crc.flip (recb m l ++ l) I).drop 32)) := Lib.hid (flip_bad m l I (by rw [← HN.out]; exact hI))
  have HFL : Hid ((Crc.flip (recb m l ++ l) I).length = n) := Lib.hid (by rw [Crc.flip_length, List.length_append, recb_length]; exact HN.out.symm)
  go_enter Tryd.func4, Tryd.ntmps4
  go_wp2_with fail
  (with_reducible refine (first_call (J0.out.sent HS.out)).mono ?_)
  rintro e w1 ⟨rfl, b1⟩
  have k1 := J0.out.step b1
  clear b1
  obtain ⟨p0, p1, p2, p3, p4, p5⟩ := k1.1.six
  have J1 := Lib.hid k1
  clear k1
  go_wp2_with fail
  clear p0 p1 p2 p3 p4 p5
  (with_reducible refine (bytes_yes HM.out rfl (J1.out.vw V.out) l1.out (J1.out.sent HS.out)).mono ?_)
  rintro e w2 ⟨g, capx, rfl, hcx, vx, b2, _, _⟩
  have k2 := J1.out.step b2
  have X2 := Lib.hid vx
  have hcx' : 24 ≤ capx := by omega
  have hcxI : (24 : Int) ≤ (capx : Int) := by omega
  clear b2 vx
  have J2 := Lib.hid k2
  clear k2
  go_wp2_with fail
  (with_reducible refine (open_yes HGood.out (recb_length _ _).symm rfl X2.out (J2.out.vw V.out) (by rw [recb_length]; decide) l1.out (J2.out.sent HS.out)).mono ?_)
  rintro e w3 ⟨rfl, b3⟩
  have k3 := J2.out.step b3
  have X3 : Hid (Vw (w3.alloc (mobj (mOf (recb m l)))) (some ⟨g, 0, none⟩) capx (recb m l)) := Lib.hid ((X2.out.below b3 (Nat.le_refl _)).alloc _)
  clear b3
  obtain ⟨p0, p1, p2, p3, p4, p5⟩ := k3.1.six
  have hlt := k3.2.2
  have J3 : Hid (K1 w (w3.alloc (mobj (mOf (recb m l)))) m) := Lib.hid (k3.alloc _)
  clear k3
  go_wp2_with fail
  clear p0 p1 p2 p3 p4 p5
  (with_reducible refine (same_t HSame.out _).mono ?_)
  rintro e w4 ⟨rfl, b4⟩
  have J4 := Lib.hid (J3.out.step b4)
  have X4 : Hid (Vw w4 (some ⟨g, 0, none⟩) capx (recb m l)) := Lib.hid (X3.out.below b4 (Nat.le_refl _))
  clear b4
  go_wp2_with fail
  (with_reducible refine (zer_call HM.out X4.out).mono ?_)
  rintro e w5 ⟨z, rfl, hz, rfl⟩
  have hzI : ¬ ((z : Int) < 37) := by omega
  go_wp2_with fail
  clear hz hzI
  (with_reducible refine (copy_own (recb_length m l).symm X4.out (by rw [recb_length]; decide) (by rw [recb_length]; decide)).mono ?_)
  rintro e w5 ⟨gc, capc, rfl, O5, b5, hgc⟩
  have HO5 := Lib.hid O5
  have HB5 := Lib.hid b5
  clear O5 b5
  obtain ⟨i0, hi, hz0, hz1, hz2⟩ := info_parts Tryd.info5
  go_wp2_with (at_builtin; refine wpList_append_own _ rfl _ _ 24 rfl w4.heap.size 5 i0 (.int .u8 0) 1 1 Tryd.underlying24 hi hz0 hz1 hz2 rfl (by decide) _ 32 (cells (recb m l)) rfl HO5.out ad l.length cap (cells l) (by rw [ha.out]; rfl) (by rw [cells_length]; omega) ?c1 (cells_one _) ?c3 ?c4 ?c5 ?_)
  case c1 =>
    intro j y hy
    rw [cells_get] at hy
    have hvv := (J4.out.vw V.out).below HB5.out (Nat.le_refl _)
    rcases hvv with ⟨h, _⟩ | ⟨xx, hxx, _, _, h3⟩
    · rw [ha.out] at h; cases h
    · rw [ha.out] at hxx; cases hxx
      cases hc : l[j]? with
      | none => rw [hc] at hy; cases hy
      | some c => rw [hc] at hy; cases hy; exact h3 j c hc
  case c3 => unfold maxLen; omega
  case c4 => omega
  case c5 => exact HB5.out.size
  intro v' w6 hown hg hnil
  have HNIL := Lib.hid hnil
  have hO6 : w6.ownsRow w4.heap.size 5 1 v' (32 + l.length) (cells (recb m l ++ l)) := by rw [cells_append]; exact hown
  clear hown hnil
  have B6 : Hid (Below w4.heap.size w4 w6) := Lib.hid (HB5.out.grown hg HB5.out.size (fun k hk => by simp [Value.ownBlock] at hk; omega))
  clear hg hi hz0 hz1 hz2
  rw [← HN.out] at hO6
  obtain ⟨ga, capa, rfl, hga, hca, hgl⟩ := own_shape hO6 (by omega)
  have O6 := Lib.hid hO6
  have J6 := Lib.hid (J4.out.step B6.out)
  have hwga : w.heap.size ≤ ga := Nat.le_trans J4.out.2.1.size hga
  clear hO6 hgc
  go_upto_region 12 with (fail)
  rw [EI.out]
  clear hti0 hti1
  have hcI : w6.cell? ⟨ga, I / 8, none⟩ = some (.int .u8 (nv ((recb m l ++ l)[I / 8]?.getD 0#8))) := by
    have h8 : I / 8 < (recb m l ++ l).length := by rw [List.length_append, recb_length, ← HN.out]; omega
    rw [O6.out.cellAt (I / 8) (by omega), cells_get, List.getElem?_eq_getElem h8]; rfl
  have hfI := O6.out.frozenAt (I / 8)
  have hx3 := (O6.out.stored (I / 8) (.int .u8 (nv (((recb m l ++ l)[I / 8]?.getD 0#8) ^^^ (1#8 <<< (I % 8)))))).1
  rw [← flip_cells] at hx3
  have HX3 := Lib.hid hx3
  have J7 : Hid (Below w.heap.size w (w6.setCell ⟨ga, I / 8, none⟩ (.int .u8 (nv (((recb m l ++ l)[I / 8]?.getD 0#8) ^^^ (1#8 <<< (I % 8))))))) := Lib.hid (J6.out.2.1.setCell hwga _)
  clear hx3
  have hI8 : I / 8 < n := by omega
  have hI8I : ((I / 8 : Nat) : Int) < (n : Int) := by omega
  go_upto_region 13 with (fail)
  rw [turn_spell _ I _ rfl]
  obtain ⟨w7, hw7⟩ : ∃ w7, w6.setCell ⟨ga, I / 8, none⟩ (.int .u8 (nv (((recb m l ++ l)[I / 8]?.getD 0#8) ^^^ (1#8 <<< (I % 8))))) = w7 := ⟨_, rfl⟩
  rw [hw7] at HX3 J7 ⊢
  clear hw7 hcI hfI
  have X7 := Lib.hid (Vw.of_own HX3.out).2
  obtain ⟨au, HAU⟩ : ∃ au, Hid (au = sla (some ⟨ga, 0, none⟩) capa 32) := ⟨_, Lib.hid rfl⟩
  have U7 : Hid (Vw w7 au (capa - 32) ((Crc.flip (recb m l ++ l) I).drop 32)) := Lib.hid (by
    have := X7.out.piece 32 (n - 32) (by rw [HFL.out]; omega)
    rw [List.take_of_length_le (by rw [List.length_drop, HFL.out]; exact Nat.le_refl _), ← HAU.out] at this
    exact this)
  have cs1 : ∀ w', (Instr.slice 24 (.slice (some ⟨ga, 0, none⟩) n capa) none (some (.int .i64 32)) none).run Tryd.prog w' = .ok (.slice (some ⟨ga, 0, none⟩) 32 capa) w' := fun w' => by
    have := run_head w' (some ⟨ga, 0, none⟩) n capa 32 (by omega)
    rwa [sla_0 _ _ (by omega)] at this
  have cs2 : ∀ w', (Instr.slice 24 (.slice (some ⟨ga, 0, none⟩) n capa) (some (.int .i64 32)) none none).run Tryd.prog w' = .ok (.slice au (n - 32) (capa - 32)) w' := fun w' => by
    have := run_tail w' (some ⟨ga, 0, none⟩) n capa 32 (by omega)
    rwa [← HAU.out] at this
  have S7 : Hid (Sent w7 (sen x)) := Lib.hid (HS.out.below J7.out HS.out.2)
  have OC : Hid (∀ wx, Bel w7 wx → Calls Tryd.prog 11 #[.slice (some ⟨ga, 0, none⟩) 32 capa, .slice au (n - 32) (capa - 32)] wx (Gave (.tuple #[rv (fun _ => 0), sen x]) wx)) := Lib.hid (fun wx h =>
    open_no HBad.out (by rw [List.length_take, HFL.out]; omega) (by rw [List.length_drop, HFL.out]) ((X7.out.take 32).below h (Nat.le_refl _)) (U7.out.below h (Nat.le_refl _)) (by rw [List.length_take]; omega) (by rw [List.length_drop, HFL.out]; omega) (S7.out.below h S7.out.2))
  have D0 : Bel w7 w7.drew := (Below.refl _ _).drew
  have D1 : Bel (w7.alloc zobj) (w7.alloc zobj).drew := (Below.refl _ _).drew
  have B1 : Hid (∀ wx, Bel (w7.alloc zobj) wx → Bel w7 wx) := Lib.hid (fun wx h => ((Below.refl _ _).alloc (Nat.le_refl _) zobj).trans (h.mono (by simp)))
  have F : Hid (∀ wx, Bel w7 wx → wx.cell? ⟨0, 0, none⟩ = some (sen x) ∧ 0 < wx.heap.size ∧ Below w.heap.size w wx) := Lib.hid (fun wx h => ⟨(S7.out.below h S7.out.2).1, (S7.out.below h S7.out.2).2, J7.out.trans (h.mono J7.out.size)⟩)
  have hp0 : ¬ w7.heap.size = 0 := by have := S7.out.2; omega
  have hp1 : ¬ 0 = w7.heap.size := by omega
  have hw7 : Hid (w.heap.size ≤ w7.heap.size) := Lib.hid J7.out.size
  go_wp2_with fail
  go_region_held3 (fun _ => True) (trivial)
    (first
      | (go_at_call 11; (with_reducible refine (OC.out _ D0).mono ?_); rintro e w8 ⟨rfl, b8⟩; obtain ⟨hs, hp, h8⟩ := F.out _ (D0.trans (b8.mono D0.size)); have H8 := Lib.hid h8; clear h8 b8 D0)
      | (go_at_call 11; (with_reducible refine (OC.out _ (B1.out _ D1)).mono ?_); rintro e w8 ⟨rfl, b8⟩; have D8 : Bel (w7.alloc zobj) w8 := D1.trans (b8.mono D1.size); obtain ⟨hs, hp, h8⟩ := F.out _ (B1.out _ D8); have H8 := Lib.hid h8; have Z := (blk_new w7).far D8 (by simp); obtain ⟨c0, c1, c2, c3, c4, c5⟩ := Z.rec.six; have f0 := Z.free 0; have f1 := Z.free 1; have f2 := Z.free 2; have f3 := Z.free 3; have f4 := Z.free 4; have f5 := Z.free 5; clear h8 b8 D1 D8 Z))
  all_goals
    clear cs1 cs2
    go_wp2
    go_ret
    refine ⟨rfl, ?_⟩
    first
      | with_reducible exact H8.out.alloc H8.out.size _
      | exact (((((H8.out.setCell hw7.out _).setCell hw7.out _).setCell hw7.out _).setCell hw7.out _).setCell hw7.out _).setCell hw7.out _
theorem back_walk (m : Nat → Int) (a : Option Addr) (cap : Nat) (l : List (BitVec 8)) (bit : Int) (x : Addr) (w : World) (hS : Sent w (sen x)) (hv : Vw w a cap l) :
    Calls Tryd.prog 4 #[rv m, .slice a l.length cap, .int .i64 bit] w (RetT w) := by
  by_cases h1 : 2000 < l.length
  · exact back_long m a cap l bit x w hS hv h1
  by_cases hm : May m
  · cases ha : a with
    | none =>
      rcases hv with ⟨_, rfl, rfl⟩ | ⟨y, hy, _⟩
      · exact back_nil m [] (Lib.hid rfl) bit x w hS hm
      · rw [ha] at hy; cases hy
    | some ad => rw [← ha]; exact back_yes m a cap l bit x w hS hv h1 hm ad (Lib.hid ha)
  · exact back_no m a cap l bit x w hS hv h1 hm
end Go.Proofs.YtmfkfheakahckaaDoor
