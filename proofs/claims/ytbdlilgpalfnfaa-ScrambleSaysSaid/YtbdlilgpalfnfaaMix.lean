/- What xored, Mix and the stream's Mix compute: the bytes xored with the stream's, in new memory; at most 100000 bytes. -/
import Derived.Test.YtbdlilgpalfnfaaView
import Derived.Test.YtbdlilgpalfnfaaLow
import Derived.Deep.RegionHeld3
import Derived.Deep.RegionLaw
import Derived.Outline
set_option linter.unusedVariables false
namespace Go.Proofs.Ytbdlilgpalfnfaa
open Go.RowKit

theorem Try.info5 : (Try.prog.info? 5).map (fun i => (i.zero, i.size, i.bytes)) = some (some (.int .u8 0), 1, 1) := by kernel_rfl
/-- what xored leaves -/
def Mixed (b : Nat) (x : BitVec 16) (l : List (BitVec 8)) (w : World) (e : Ending) (w' : World) : Prop :=
  ∃ v, e = .returned v ∧ w'.ownsRow w.heap.size 5 1 v l.length (cells (mx x l)) ∧ Reg w' b (Scr.it (8 * l.length) x) ∧ w.grownBy w' (some b)
theorem gset_far {w wr : World} {b g : Nat} (h : w.grownBy wr (some b)) (hg : w.heap.size ≤ g) (o : Nat) (v : Value) : w.grownBy (wr.setCell ⟨g, o, none⟩ v) (some b) :=
  ⟨h.os, h.tape, h.output, by simpa [World.setCell] using h.size, fun k hk hne => (Below.heap_setCell _ _ _ k (by simp; omega)).trans (h.block k hk hne)⟩
theorem gdrew {w w' : World} {row : Option Nat} (h : w.drew.grownBy w' row) : w.grownBy w' row := ⟨h.os, h.tape, h.output, h.size, h.block⟩
theorem mix_round {w wr w2 : World} {b g k c' : Nat} {x : BitVec 16} {l : List (BitVec 8)} (hlt : k < l.length) (hgb : w.heap.size ≤ g) (hgb2 : some g ≠ some b)
    (ho : wr.ownsRow w.heap.size 5 1 (.slice (some ⟨g, 0, none⟩) l.length c') l.length (cells (mp x l k))) (hg : w.grownBy wr (some b))
    (hr2 : Reg w2 b (Scr.it 8 (Scr.it (8 * k) x))) (hg2 : wr.drew.grownBy w2 (some b)) (u : Int) (hu : u = nv (l[k] ^^^ lo (Scr.it (8 * k) x))) :
    (w2.setCell ⟨g, k, none⟩ (.int .u8 u)).ownsRow w.heap.size 5 1 (.slice (some ⟨g, 0, none⟩) l.length c') l.length (cells (mp x l (k + 1))) ∧
      Reg (w2.setCell ⟨g, k, none⟩ (.int .u8 u)) b (Scr.it (8 * (k + 1)) x) ∧ w.grownBy (w2.setCell ⟨g, k, none⟩ (.int .u8 u)) (some b) := by
  subst hu
  refine ⟨?_, ?_, gset_far (gtrans hg (gdrew hg2)) hgb _ _⟩
  · rw [mp_succ _ _ _ hlt, cells_set]
    exact ((ho.kept (gdrew hg2) (.inr (by simpa [Value.ownBlock] using hgb2))).stored k _).1
  · rw [show 8 * (k + 1) = 8 * k + 8 by omega, Scr.it_add]
    exact hr2.kept (gset _ _ _ _) (fun e => hgb2 e.symm)
theorem mix_spell (c : BitVec 8) (x : BitVec 16) : bits BinOp.xor IntKind.u8 (nv c) (low x 8 % 256) = nv (c ^^^ lo x) := by
  have h := (low_lt x 8)
  rw [Int.emod_eq_of_lt h.1 (by simpa using h.2), low8, xor8]
theorem xored_any (b : Nat) (x : BitVec 16) (a : Option Addr) (cap : Nat) (l : List (BitVec 8)) (w : World) (hr : Reg w b x) (hv : Vw w a cap l) (hl : l.length ≤ 100000) :
    Calls Try.prog 21 #[.slice a l.length cap, .func (.func 16) #[.pointer (some ⟨b, 0, none⟩)] #[]] w (Mixed b x l w) := by
  obtain ⟨i0, hi, hz0, hz1, hz2⟩ := info_parts Try.info5
  rcases hv with ⟨rfl, rfl, rfl⟩ | ⟨ad, rfl, h1, h2, h3⟩
  · go_enter Try.func21, Try.ntmps21
    go_wp2_with (at_builtin; refine wpList_append_own_none rfl _ _ 25 rfl w.heap.size 5 i0 1 Try.underlying25 hi hz1 _ 0 [] rfl (World.ownsRow_nil _ _ _ _) rfl ?_)
    refine wp_loop_rounds 1 ?_
    rw [rounds_succ]
    go_wp2
    go_ret
    exact ⟨_, rfl, World.ownsRow_nil _ _ _ _, hr, grefl _ _⟩
  · have hlt := hr.lt
    go_enter Try.func21, Try.ntmps21
    go_wp2_with (at_builtin; refine wpList_append_own _ rfl _ _ 25 rfl w.heap.size 5 i0 (.int .u8 0) 1 1 Try.underlying25 hi hz0 hz1 hz2 rfl (by decide) _ _ _ rfl (World.ownsRow_nil _ _ _ _) ad l.length cap (cells l) rfl (by rw [cells_length]; omega) ?c1 (cells_one l) ?c3 ?c4 ?c5 ?_)
    case c1 =>
      intro j u hu
      rw [cells_get] at hu
      cases hc : l[j]? with
      | none => rw [hc] at hu; cases hu
      | some c => rw [hc] at hu; cases hu; exact h3 j c hc
    case c3 => unfold maxLen; omega
    case c4 => omega
    case c5 => exact Nat.le_refl _
    intro v' w1 hown hg hnil
    clear hnil h3
    obtain ⟨hlen, hsh⟩ := id hown
    rcases hsh with ⟨rfl, h0⟩ | ⟨g, c', _, rfl, hgb, _, hlc, hcm, _⟩
    · obtain rfl : l = [] := List.length_eq_zero_iff.1 h0
      go_wp2
      refine wp_loop_rounds 1 ?_
      rw [rounds_succ]
      go_wp2
      go_ret
      exact ⟨_, rfl, World.ownsRow_nil _ _ _ _, hr.kept hg (by simp [Value.ownBlock]), gbut hg _⟩
    · have hr1 : Reg w1 b x := hr.kept hg (by simp [Value.ownBlock])
      have hgw : w.grownBy w1 (some b) := ⟨hg.os, hg.tape, hg.output, hg.size, fun k hk _ => hg.block k hk (by simp [Value.ownBlock])⟩
      have hw1 := hg.size
      clear hg
      go_wp2
      go_loopw [11] (fun c wr => ∃ k : Nat, k ≤ l.length ∧ c = .int .i64 k ∧ wr.ownsRow w.heap.size 5 1 (.slice (some ⟨g, 0, none⟩) l.length c') l.length (cells (mp x l k)) ∧ Reg wr b (Scr.it (8 * k) x) ∧ w.grownBy wr (some b))
        (fun c _ => l.length - (intOf c).toNat)
      case atStart => exact ⟨0, by omega, rfl, by rw [mp_zero]; exact hown, hr1, hgw⟩
      case round =>
        clear hown hr1 hgw hw1
        obtain ⟨k, hk, rfl, ho, hr, hg⟩ := hrel
        by_cases hlt : k < l.length
        · have hc1 : wr.cell? ⟨g, k, none⟩ = some (.int .u8 (nv l[k])) := by
            rw [ho.cellAt k (by omega), cells_get, mp_get _ _ _ hlt]; rfl
          have hf1 := ho.frozenAt k
          have hltI : (k : Int) < (l.length : Int) := by omega
          go_wp2
          have hgl : g < wr.heap.size := World.block_lt_of_cell? wr ⟨g, k, none⟩ hc1
          have hgb2 : some g ≠ some b := by simp; omega
          go_region_law ((go_simp; go_at_call 16; refine (next_reg b (Scr.it (8 * k) x) _ ?_).mono ?_; (exact hr); rintro e w2 ⟨rfl, hr2, hg2⟩; have hc2 := (hg2.cell (a := ⟨g, k, none⟩) hc1 hgb2); have hf2 := (World.frozen?_of_block (a := ⟨g, k, none⟩) (hg2.block g hgl hgb2)).trans hf1))
          all_goals
            go_wp2
            go_roundw
            case rel =>
              exact ⟨k + 1, by omega, by go_num, mix_round hlt hgb hgb2 ho hg hr2 hg2 _ (mix_spell _ _)⟩
            case measure => simp [intOf]; omega
        · obtain rfl : k = l.length := by omega
          go_wp2
          go_ret
          exact ⟨_, rfl, by rw [← mp_all]; exact ho, hr, hg⟩
theorem own_base {w : World} {B B' : Nat} {e : TypeId} {size : Nat} {v : Value} {n : Nat} {xs : List Value} (h : w.ownsRow B e size v n xs) (hB : B' ≤ B) : w.ownsRow B' e size v n xs := by
  obtain ⟨h1, h2⟩ := h
  refine ⟨h1, ?_⟩
  rcases h2 with h2 | ⟨g, cap, cur, hv, hb, r⟩
  · exact .inl h2
  · exact .inr ⟨g, cap, cur, hv, Nat.le_trans hB hb, r⟩
/-- the stream's Mix -/
theorem mixm_any (b : Nat) (x : BitVec 16) (a : Option Addr) (cap : Nat) (l : List (BitVec 8)) (w : World) (hr : Reg w b x) (hv : Vw w a cap l) (hl : l.length ≤ 100000) :
    Calls Try.prog 13 #[.pointer (some ⟨b, 0, none⟩), .slice a l.length cap] w (Mixed b x l w) := by
  have H : Hid (Reg w b x) := hr
  have V : Hid (Vw w a cap l) := hv
  clear hr hv
  go_enter Try.func13, Try.ntmps13
  go_wp2_with fail
  refine (xored_any b x a cap l w H.out V.out hl).mono ?_
  rintro e w1 ⟨v, rfl, h1, h2, h3⟩
  go_wp2
  go_ret
  exact ⟨v, rfl, h1, h2, h3⟩
/-- what Mix leaves -/
def MixedNew (seed : Int) (l : List (BitVec 8)) (w : World) (e : Ending) (w' : World) : Prop :=
  ∃ v, e = .returned v ∧ w'.ownsRow w.heap.size 5 1 v l.length (cells (mx (ini seed) l)) ∧ Below w.heap.size w w'
theorem mix_any (seed : Int) (a : Option Addr) (cap : Nat) (l : List (BitVec 8)) (w : World) (hv : Vw w a cap l) (hl : l.length ≤ 100000) :
    Calls Try.prog 10 #[.int .i64 seed, .slice a l.length cap] w (MixedNew seed l w) := by
  have V : Hid (Vw w a cap l) := hv
  clear hv
  go_enter Try.func10, Try.ntmps10
  go_wp2_with fail
  refine (new_reg _ _).mono ?_
  rintro e w1 ⟨rfl, hr, hg⟩
  have HR := Lib.hid hr
  clear hr
  go_wp2_with fail
  refine (mixm_any w.heap.size _ a cap l w1 HR.out (V.out.grown hg (by simp)) hl).mono ?_
  rintro e w2 ⟨v, rfl, h1, h2, h3⟩
  go_wp2
  go_ret
  exact ⟨v, rfl, own_base h1 hg.size, ((Below.refl _ _).grown hg (Nat.le_refl _) (by simp)).grown h3 hg.size (by simp)⟩
end Go.Proofs.Ytbdlilgpalfnfaa
