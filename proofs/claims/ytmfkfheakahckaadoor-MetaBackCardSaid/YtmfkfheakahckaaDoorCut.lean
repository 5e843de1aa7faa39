/- The walk of shalelaw12.MetaCut: true, for all arguments. -/
import Derived.Test.YtmfkfheakahckaaDoorCalls2
set_option linter.unusedVariables false
namespace Go.Proofs.YtmfkfheakahckaaDoor
open Go.RowKit
theorem K1.alloc {w wx : World} {a : Nat → Int} (h : K1 w wx a) (o : Obj) : K1 w (wx.alloc o) a := h.step ((Below.refl _ _).alloc (Nat.le_refl _) o)
theorem Vw.alloc {w : World} {a : Option Addr} {cap : Nat} {l : List (BitVec 8)} (h : Vw w a cap l) (o : Obj) : Vw (w.alloc o) a cap l := h.below ((Below.refl _ _).alloc (Nat.le_refl _) o) (Nat.le_refl _)
theorem and31 (n : Int) : ∃ k : Nat, k < 32 ∧ bits .and .i64 n 31 = (k : Int) := by
  have h : bits .and .i64 n 31 = n % 32 := and_pow_i64 n 5 (by decide)
  refine ⟨(n % 32).toNat, by omega, ?_⟩
  rw [h]; omega
theorem sla_0 (g cap : Nat) (h : 0 < cap) : sla (some ⟨g, 0, none⟩) cap 0 = some ⟨g, 0, none⟩ := sla_some g cap 0 h
def CopyB (n : Nat) (l : List (BitVec 8)) (w : World) (e : Ending) (w' : World) : Prop :=
  ∃ g cap, e = .returned (.slice (some ⟨g, 0, none⟩) n cap) ∧ w'.ownsRow w.heap.size 5 1 (.slice (some ⟨g, 0, none⟩) n cap) n (cells l) ∧ Below w.heap.size w w' ∧ w.heap.size ≤ g
def CopyV (l : List (BitVec 8)) (w : World) (e : Ending) (w' : World) : Prop :=
  ∃ a cap, e = .returned (.slice a l.length cap) ∧ Vw w' a cap l ∧ Below w.heap.size w w'
theorem copy_view {a : Option Addr} {cap n : Nat} {l : List (BitVec 8)} {w : World} (hn : n = l.length) (hv : Vw w a cap l) (hl : l.length ≤ 100000) : Calls Tryd.prog 10 #[.slice a n cap] w (CopyV l w) :=
  (copy_n a cap n l w hn hv hl).mono fun e w' h => by
    obtain ⟨v, rfl, hO, hb⟩ := h
    obtain ⟨a', cap', rfl, hv', _⟩ := own_shape' hO (Nat.zero_le _)
    exact ⟨a', cap', rfl, hv', hb⟩
theorem copy_own {a : Option Addr} {cap n : Nat} {l : List (BitVec 8)} {w : World} (hn : n = l.length) (hv : Vw w a cap l) (hl : l.length ≤ 100000) (h0 : 0 < l.length) : Calls Tryd.prog 10 #[.slice a n cap] w (CopyB n l w) :=
  (copy_n a cap n l w hn hv hl).mono fun e w' h => by
    subst hn
    obtain ⟨v, rfl, hO, hb⟩ := h
    obtain ⟨g, cap', rfl, hg, _, _⟩ := own_shape hO h0
    exact ⟨g, cap', rfl, hO, hb, hg⟩
theorem not_good_len {b l : List (BitVec 8)} (h : b.length ≠ 32) : ¬ Good b l := fun g => h g.1.1
set_option maxHeartbeats 4000000 in
theorem cut_long (m : Nat → Int) (a : Option Addr) (cap : Nat) (l : List (BitVec 8)) (at' : Int) (c : BitVec 8) (x : Addr) (w : World) (hS : Sent w (sen x)) (hv : Vw w a cap l) (h1 : 2000 < l.length) :
    Calls Tryd.prog 3 #[rv m, .slice a l.length cap, .int .i64 at', .int .u8 (nv c)] w (RetT w) := by
  have HS := Lib.hid hS
  have V := Lib.hid hv
  have J0 := Lib.hid (K1.new w m)
  clear hS hv
  have h1I : (2000 : Int) < (l.length : Int) := by omega
  go_enter Tryd.func3, Tryd.ntmps3
  go_wp2_with fail
  (with_reducible refine (first_call (J0.out.sent HS.out)).mono ?_)
  rintro e w1 ⟨rfl, b1⟩
  have k1 := J0.out.step b1
  clear b1
  obtain ⟨p0, p1, p2, p3, p4, p5⟩ := k1.1.six
  have J1 := Lib.hid k1
  clear k1
  go_wp2
  go_ret
  exact ⟨rfl, J1.out.2.1⟩
set_option maxHeartbeats 4000000 in
theorem cut_no (m : Nat → Int) (a : Option Addr) (cap : Nat) (l : List (BitVec 8)) (at' : Int) (c : BitVec 8) (x : Addr) (w : World) (hS : Sent w (sen x)) (hv : Vw w a cap l) (h1 : ¬ 2000 < l.length) (hm : ¬ May m) :
    Calls Tryd.prog 3 #[rv m, .slice a l.length cap, .int .i64 at', .int .u8 (nv c)] w (RetT w) := by
  have HS := Lib.hid hS
  have V := Lib.hid hv
  have J0 := Lib.hid (K1.new w m)
  clear hS hv
  have h1I : ¬ (2000 : Int) < (l.length : Int) := by omega
  have l1 : Hid (l.length ≤ 100000) := Lib.hid (by omega)
  have e1 := neq_nn
  have e2 := neq_sn x
  have HM := Lib.hid hm
  clear hm
  go_enter Tryd.func3, Tryd.ntmps3
  go_wp2_with fail
  (with_reducible refine (first_call (J0.out.sent HS.out)).mono ?_)
  rintro e w1 ⟨rfl, b1⟩
  have k1 := J0.out.step b1
  clear b1
  obtain ⟨p0, p1, p2, p3, p4, p5⟩ := k1.1.six
  have J1 := Lib.hid k1
  clear k1
  go_wp2_with fail
  clear p0 p1 p2 p3 p4 p5
  (with_reducible refine (bytes_no HM.out rfl (J1.out.vw V.out) l1.out (J1.out.sent HS.out)).mono ?_)
  rintro e w2 ⟨rfl, b2⟩
  have k2 := J1.out.step b2
  clear b2
  obtain ⟨p0, p1, p2, p3, p4, p5⟩ := k2.1.six
  have J2 := Lib.hid k2
  clear k2
  go_wp2
  go_ret
  exact ⟨rfl, J2.out.2.1⟩
set_option maxHeartbeats 4000000 in
theorem cut_yes (m : Nat → Int) (a : Option Addr) (cap : Nat) (l : List (BitVec 8)) (at' : Int) (c : BitVec 8) (x : Addr) (w : World) (hS : Sent w (sen x)) (hv : Vw w a cap l) (h1 : ¬ 2000 < l.length) (hm : May m) :
    Calls Tryd.prog 3 #[rv m, .slice a l.length cap, .int .i64 at', .int .u8 (nv c)] w (RetT w) := by
  have HS := Lib.hid hS
  have V := Lib.hid hv
  have J0 := Lib.hid (K1.new w m)
  clear hS hv
  have h1I : ¬ (2000 : Int) < (l.length : Int) := by omega
  have l1 : Hid (l.length ≤ 100000) := Lib.hid (by omega)
  have e1 := neq_nn
  have e2 := neq_sn x
  have HM := Lib.hid hm
  clear hm
  have e3 := eql_nn
  have e4 := eql_ss x
  have HGood := Lib.hid (good_rec HM.out l)
  have HSame := Lib.hid (same_rec HM.out l)
  obtain ⟨k, hk, HK⟩ := and31 at'
  have HKi : (k : Int) < 32 := by omega
  go_enter Tryd.func3, Tryd.ntmps3
  go_wp2_with fail
  (with_reducible refine (first_call (J0.out.sent HS.out)).mono ?_)
  rintro e w1 ⟨rfl, b1⟩
  have k1 := J0.out.step b1
  clear b1
  obtain ⟨p0, p1, p2, p3, p4, p5⟩ := k1.1.six
  have J1 := Lib.hid k1
  clear k1
  go_wp2_with fail
  clear p0 p1 p2 p3 p4 p5
  (with_reducible refine (bytes_yes HM.out rfl (J1.out.vw V.out) l1.out (J1.out.sent HS.out)).mono ?_)
  rintro e w2 ⟨g, capx, rfl, hcx, vx, b2, _, _⟩
  have k2 := J1.out.step b2
  have X2 := Lib.hid vx
  clear b2 vx
  have J2 := Lib.hid k2
  clear k2
  have cs : ∀ w', (Instr.slice 24 (.slice (some ⟨g, 0, none⟩) 32 capx) none (some (.int .i64 (k : Int))) none).run Tryd.prog w' = .ok (.slice (some ⟨g, 0, none⟩) k capx) w' := fun w' => by
    have := run_head w' (some ⟨g, 0, none⟩) 32 capx k (by omega)
    rwa [sla_0 _ _ (by omega)] at this
  go_wp2_with fail
  (with_reducible refine (copy_view rfl (J2.out.vw V.out) l1.out).mono ?_)
  rintro e w3 ⟨ak, capk, rfl, vk, b3⟩
  have k3 := J2.out.step b3
  have X3 : Hid (Vw w3 (some ⟨g, 0, none⟩) capx (recb m l)) := X2.out.below b3 (Nat.le_refl _)
  have C3 := Lib.hid vk
  clear b3 vk
  have J3 := Lib.hid k3
  clear k3
  go_wp2_with fail
  clear cs
  (with_reducible refine (open_no (b := (recb m l).take k) (not_good_len (by rw [List.length_take, recb_length]; omega)) (by rw [List.length_take, recb_length]; omega) rfl (X3.out.take k) (J3.out.vw V.out) (by rw [List.length_take, recb_length]; omega) l1.out (J3.out.sent HS.out)).mono ?_)
  rintro e w4 ⟨rfl, b4⟩
  have J4 : Hid (K1 w (w4.alloc zobj) m) := Lib.hid ((J3.out.step b4).alloc _)
  have X4 : Hid (Vw (w4.alloc zobj) (some ⟨g, 0, none⟩) capx (recb m l)) := Lib.hid ((X3.out.below b4 (Nat.le_refl _)).alloc _)
  have C4 : Hid (Vw (w4.alloc zobj) ak capk l) := Lib.hid ((C3.out.below b4 (Nat.le_refl _)).alloc _)
  clear b4
  go_wp2_with fail
  (with_reducible refine (copy_own (recb_length m l).symm X4.out (by rw [recb_length]; decide) (by rw [recb_length]; decide)).mono ?_)
  rintro e w5 ⟨gc, capc, rfl, O5, b5, hgc⟩
  have HO5 := Lib.hid O5
  have HB5 := Lib.hid b5
  clear O5 b5
  obtain ⟨i0, hi, hz0, hz1, hz2⟩ := info_parts Tryd.info5
  go_wp2_with (at_builtin; refine wpList_append_own _ rfl _ _ 24 rfl (w4.alloc zobj).heap.size 5 i0 (.int .u8 0) 1 1 Tryd.underlying24 hi hz0 hz1 hz2 rfl (by decide) _ 32 (cells (recb m l)) rfl (HO5.out.alloc _) ⟨w5.heap.size, 0, none⟩ 1 1 (cells [c]) rfl rfl ?c1 (cells_one _) ?c3 ?c4 ?c5 ?_)
  case c1 =>
    intro j u hu
    rw [add_none, Nat.zero_add, World.cell?_alloc_mark]
    simpa [cells] using hu
  case c3 => unfold maxLen; omega
  case c4 => omega
  case c5 =>
    have := HB5.out.size
    simp at this ⊢
    omega
  intro v' w6 hown hg hnil
  have HNIL := Lib.hid hnil
  have hO6 : w6.ownsRow (w4.alloc zobj).heap.size 5 1 v' 33 (cells (recb m l ++ [c])) := by rw [cells_append]; simpa using hown
  have B6 : Hid (Below (w4.alloc zobj).heap.size (w4.alloc zobj) w6) := Lib.hid ((HB5.out.alloc HB5.out.size _).grown hg (by have := HB5.out.size; simp at this ⊢; omega) (fun k hk => by simp [Value.ownBlock] at hk; simp at hgc ⊢; omega))
  clear hown hg hnil
  obtain ⟨a6, cap6, rfl, hv6, _⟩ := own_shape' hO6 (by decide)
  have V6 := Lib.hid hv6
  have J6 := Lib.hid (J4.out.step B6.out)
  have X6 : Hid (Vw w6 (some ⟨g, 0, none⟩) capx (recb m l)) := Lib.hid (X4.out.below B6.out (Nat.le_refl _))
  have C6 : Hid (Vw w6 ak capk l) := Lib.hid (C4.out.below B6.out (Nat.le_refl _))
  clear hO6 hv6 hgc hi hz0 hz1 hz2
  have n33 : (recb m l ++ [c]).length = 33 := by simp [recb_length]
  have N33 := Lib.hid n33
  clear n33
  go_wp2_with fail
  (with_reducible refine (open_no (b := recb m l ++ [c]) (not_good_len (by rw [N33.out]; decide)) N33.out.symm rfl V6.out (J6.out.vw V.out) (by rw [N33.out]; decide) l1.out (J6.out.sent HS.out)).mono ?_)
  rintro e w7 ⟨rfl, b7⟩
  have J7 : Hid (K1 w (w7.alloc zobj) m) := Lib.hid ((J6.out.step b7).alloc _)
  have X7 : Hid (Vw (w7.alloc zobj) (some ⟨g, 0, none⟩) capx (recb m l)) := Lib.hid ((X6.out.below b7 (Nat.le_refl _)).alloc _)
  have C7 : Hid (Vw (w7.alloc zobj) ak capk l) := Lib.hid ((C6.out.below b7 (Nat.le_refl _)).alloc _)
  clear b7
  go_wp2_with fail
  (with_reducible refine (open_yes HGood.out (recb_length _ _).symm rfl X7.out (J7.out.vw V.out) (by rw [recb_length]; decide) l1.out (J7.out.sent HS.out)).mono ?_)
  rintro e w8 ⟨rfl, b8⟩
  have k8 := J7.out.step b8
  have C8 : Hid (Vw w8 ak capk l) := Lib.hid (C7.out.below b8 (Nat.le_refl _))
  clear b8
  obtain ⟨p0, p1, p2, p3, p4, p5⟩ := k8.1.six
  have hlt := k8.2.2
  have hs := (k8.sent HS.out).1
  have hp := (k8.sent HS.out).2
  have J8 := Lib.hid k8
  clear k8
  go_wp2_with fail
  clear p0 p1 p2 p3 p4 p5 hs
  (with_reducible refine (same_t HSame.out _).mono ?_)
  rintro e w9 ⟨rfl, b9⟩
  have J9 := Lib.hid ((J8.out.alloc _).step b9)
  have C9 : Hid (Vw w9 ak capk l) := Lib.hid ((C8.out.alloc _).below b9 (Nat.le_refl _))
  clear b9
  go_wp2_with fail
  (with_reducible refine (bsame_t rfl rfl rfl C9.out (J9.out.vw V.out)).mono ?_)
  rintro e w10 ⟨rfl, rfl⟩
  go_wp2
  go_ret
  exact ⟨rfl, J9.out.2.1⟩
theorem cut_walk (m : Nat → Int) (a : Option Addr) (cap : Nat) (l : List (BitVec 8)) (at' : Int) (c : BitVec 8) (x : Addr) (w : World) (hS : Sent w (sen x)) (hv : Vw w a cap l) :
    Calls Tryd.prog 3 #[rv m, .slice a l.length cap, .int .i64 at', .int .u8 (nv c)] w (RetT w) := by
  by_cases h1 : 2000 < l.length
  · exact cut_long m a cap l at' c x w hS hv h1
  by_cases hm : May m
  · exact cut_yes m a cap l at' c x w hS hv h1 hm
  · exact cut_no m a cap l at' c x w hS hv h1 hm
end Go.Proofs.YtmfkfheakahckaaDoor
