/- The comparisons of errors, and the chapter's examples (first): true; no condition. -/
import Derived.Test.YtmfkfheakahckaaDoorZer
import Derived.LaidEql
import Derived.Stop.IfaceNil
set_option linter.unusedVariables false
namespace Go.Proofs.YtmfkfheakahckaaDoor
open Go.RowKit
theorem comp69 : (Tryd.prog.info? 69).map (·.comparable) = some true := by kernel_rfl
theorem size85 : (Tryd.prog.info? 85).map (·.size) = some 1 := by kernel_rfl
theorem iface27 : Tryd.prog.isIface 27 = true := by kernel_rfl
/-- the sentinel's value -/
abbrev sen (x : Addr) : Value := .iface 69 (.pointer (some x))
theorem eql_ss (x : Addr) (w : World) : (binOp .eql 27 (sen x) (sen x)).run Tryd.prog w = .ok (.bool true) w := by
  obtain ⟨i, hi, hc⟩ := Option.map_eq_some_iff.1 comp69
  obtain ⟨j, hj, _⟩ := Option.map_eq_some_iff.1 size85
  exact run_eql_iface_ptr_same w x Tryd.underlying27 Tryd.underlying69 hi hc hj
theorem eql_ns (x : Addr) (w : World) : (binOp .eql 27 .nilIface (sen x)).run Tryd.prog w = .ok (.bool false) w := run_eql_iface_nil_left w 69 _ Tryd.underlying27
theorem eql_sn (x : Addr) (w : World) : (binOp .eql 27 (sen x) .nilIface).run Tryd.prog w = .ok (.bool false) w := run_eql_iface_nil w 27 iface27 69 _
theorem eql_nn (w : World) : (binOp .eql 27 .nilIface .nilIface).run Tryd.prog w = .ok (.bool true) w := run_eql_nil_nil_at w 27 iface27
theorem neq_sn (x : Addr) (w : World) : (binOp .neq 27 (sen x) .nilIface).run Tryd.prog w = .ok (.bool true) w := run_neq_iface_nil w 27 iface27 69 _
theorem neq_nn (w : World) : (binOp .neq 27 .nilIface .nilIface).run Tryd.prog w = .ok (.bool false) w := run_neq_nil_nil_at w 27 iface27
def ex : Nat → Int
  | 0 => 2
  | 1 => 7
  | 2 => 9
  | 3 => 9
  | _ => 0
theorem ex_may : May ex := by decide
theorem vw3 (w : World) (a b c : BitVec 8) : Vw (w.alloc (.cells #[.int .u8 (nv a), .int .u8 (nv b), .int .u8 (nv c)] 5)) (some ⟨w.heap.size, 0, none⟩) 3 [a, b, c] := by
  refine .inr ⟨_, rfl, Nat.le_refl _, by decide, fun i x hx => ?_⟩
  rw [add_none, Nat.zero_add, World.cell?_alloc_mark]
  match i, hx with
  | 0, hx => simp at hx; subst hx; rfl
  | 1, hx => simp at hx; subst hx; rfl
  | 2, hx => simp at hx; subst hx; rfl
abbrev ex3 : List (BitVec 8) := [1#8, 2#8, 3#8]
abbrev ex4 : List (BitVec 8) := [1#8, 2#8, 4#8]
theorem ex_b0 : (recb ex ex3)[0]? = some 2#8 := by decide +kernel
theorem ex_b4 : (recb ex ex3)[4]? = some 7#8 := by decide +kernel
theorem ex_b12 : (recb ex ex3)[12]? = some 9#8 := by decide +kernel
theorem ex_bad : ¬ Good (recb ex ex3) ex4 := fun h => by
  have h1 := h.1.2.2
  exact absurd h1 (by decide +kernel)
def FirstB (S : Value) (w : World) (e : Ending) (w' : World) : Prop :=
  ∃ g cap, e = .returned (.tuple #[.slice (some ⟨g, 0, none⟩) 32 cap, .nilIface]) ∧ w'.cell? ⟨g, 0, none⟩ = some (.int .u8 2) ∧ w'.cell? ⟨g, 4, none⟩ = some (.int .u8 7) ∧ w'.cell? ⟨g, 12, none⟩ = some (.int .u8 9) ∧ Vw w' (some ⟨g, 0, none⟩) cap (recb ex ex3) ∧ Below w.heap.size w w'
theorem first_bytes (w : World) (bl : Nat) (hbl : bl = w.heap.size) (S : Value) (hS : Sent w S) :
    Calls Tryd.prog 9 #[.agg #[.int .i64 2, .int .i64 7, .int .i64 9, .int .i64 9, .int .i64 0, .int .i64 0], .slice (some ⟨bl, 0, none⟩) 3 3] (w.alloc (.cells #[.int .u8 1, .int .u8 2, .int .u8 3] 5)) (FirstB S w) := by
  subst hbl
  exact (bytes_any ex (some ⟨w.heap.size, 0, none⟩) 3 3 ex3 S _ rfl (vw3 w 1#8 2#8 3#8) (by decide) (hS.below ((Below.refl _ _).alloc (Nat.le_refl _) _) hS.2)).mono fun e w' h => by
    obtain ⟨hb, ⟨_, v, rfl, hO⟩ | ⟨hm, _⟩⟩ := h
    · obtain ⟨g, cap, rfl, hg, _, _⟩ := own_shape hO (by decide)
      have hv := (Vw.of_own hO).2
      exact ⟨g, cap, rfl, hv.cellAt 0 2#8 ex_b0, hv.cellAt 4 7#8 ex_b4, hv.cellAt 12 9#8 ex_b12, hv, ((Below.refl _ _).alloc (Nat.le_refl _) _).trans (hb.mono (by simp))⟩
    · exact absurd ex_may hm
def FirstO (S : Value) (w : World) (e : Ending) (w' : World) : Prop :=
  e = .returned (.tuple #[rv (fun _ => 0), S]) ∧ Below w.heap.size w w'
theorem first_open (w : World) (bl : Nat) (hbl : bl = w.heap.size) (S : Value) (g cap : Nat) (hS : Sent w S) (hv : Vw w (some ⟨g, 0, none⟩) cap (recb ex ex3)) :
    Calls Tryd.prog 11 #[.slice (some ⟨g, 0, none⟩) 32 cap, .slice (some ⟨bl, 0, none⟩) 3 3] (w.alloc (.cells #[.int .u8 1, .int .u8 2, .int .u8 4] 5)) (FirstO S w) := by
  subst hbl
  exact (open_any (some ⟨g, 0, none⟩) (some ⟨w.heap.size, 0, none⟩) cap 3 32 3 (recb ex ex3) ex4 S _ (recb_length _ _).symm rfl (hv.below ((Below.refl _ _).alloc (Nat.le_refl _) _) (Nat.le_refl _)) (vw3 w 1#8 2#8 4#8) (by rw [recb_length]; decide) (by decide) (hS.below ((Below.refl _ _).alloc (Nat.le_refl _) _) hS.2)).mono fun e w' h => by
    obtain ⟨hb, ⟨hg, _⟩ | ⟨_, rfl⟩⟩ := h
    · exact absurd hg ex_bad
    · exact ⟨rfl, ((Below.refl _ _).alloc (Nat.le_refl _) _).trans (hb.mono (by simp))⟩
def n53 : Nat → Int
  | 2 => 5
  | 3 => 3
  | _ => 0
def n54 : Nat → Int
  | 2 => 5
  | 3 => 4
  | _ => 0
theorem newer_ex (w : World) : Calls Tryd.prog 19 #[.agg #[.int .i64 0, .int .i64 0, .int .i64 5, .int .i64 3, .int .i64 0, .int .i64 0], .agg #[.int .i64 0, .int .i64 0, .int .i64 5, .int .i64 4, .int .i64 0, .int .i64 0]] w fun r w' => r = .returned (.bool true) ∧ Below w.heap.size w w' :=
  (newer_any n53 n54 w).mono fun e w' h => ⟨h.1, h.2⟩
abbrev eobj : Obj := .cells #[.int .i64 2, .int .i64 7, .int .i64 9, .int .i64 9, .int .i64 0, .int .i64 0] 23
set_option maxHeartbeats 2000000 in
theorem first_any (x : Addr) (w : World) (hS : Sent w (sen x)) :
    Calls Tryd.prog 8 #[] w fun e w' => e = .returned (.bool true) ∧ Below w.heap.size w w' := by
  have HS := Lib.hid hS
  have e1 := eql_ss x
  have e2 := neq_nn
  clear hS
  go_enter Tryd.func8, Tryd.ntmps8
  go_wp2_with fail
  have S1 : Sent (w.alloc eobj) (sen x) := HS.out.below ((Below.refl _ _).alloc (Nat.le_refl _) eobj) HS.out.2
  (with_reducible refine (first_bytes _ _ (by simp) (sen x) S1).mono ?_)
  rintro e w1 ⟨g, cap, rfl, hc0, hc4, hc12, hv, hb⟩
  have HV := Lib.hid hv
  have HB : Hid (Below w.heap.size w w1) := ((Below.refl _ _).alloc (Nat.le_refl _) eobj).trans (hb.mono (by simp))
  have S2 : Hid (Sent w1 (sen x)) := HS.out.below HB.out HS.out.2
  clear hv hb S1
  go_wp2_with fail
  clear hc0 hc4 hc12
  (with_reducible refine (first_open _ _ rfl (sen x) g cap S2.out HV.out).mono ?_)
  rintro e w2 ⟨rfl, hb2⟩
  have HB2 : Hid (Below w.heap.size w w2) := HB.out.trans (hb2.mono HB.out.size)
  have S3 : Hid (Sent w2 (sen x)) := HS.out.below HB2.out HS.out.2
  clear hb2
  have hc : w2.cell? ⟨0, 0, none⟩ = some (sen x) := S3.out.1
  have hp := S3.out.2
  go_wp2_with fail
  (with_reducible refine (newer_ex _).mono ?_)
  rintro e w3 ⟨rfl, hb3⟩
  have HB3 := Lib.hid ((HB2.out.alloc HB2.out.size _).trans (hb3.mono (by have := HB2.out.size; simp; omega)))
  clear hb3
  go_wp2
  go_ret
  exact ⟨rfl, HB3.out⟩
end Go.Proofs.YtmfkfheakahckaaDoor
