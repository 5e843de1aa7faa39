/- SameBytes tells whether two slices read as one list; Bytes is a copy in new memory; no condition but at most 100000 bytes. -/
import Derived.Test.YtbdlilgpalfnfaaView
import Derived.Laws.IdiomStrings
import Derived.Outline
set_option linter.unusedVariables false
namespace Go.Proofs.Ytbdlilgpalfnfaa
open Go.RowKit

/-- the bytes of a list as a string -/
def bs (l : List (BitVec 8)) : ByteArray := ⟨(l.map fun c => UInt8.ofNat c.toNat).toArray⟩
theorem run_str {w : World} {a : Option Addr} {cap : Nat} {l : List (BitVec 8)} (h : Vw w a cap l) : (convert 25 9 (.slice a l.length cap)).run Try.prog w = .ok (.string (bs l)) w := by
  rcases h with ⟨rfl, rfl, rfl⟩ | ⟨x, rfl, _, _, h⟩
  · show (convert 25 9 (.slice none 0 0)).run Try.prog w = .ok (.string (bs [])) w
    rw [run_convert_bytes_string w 25 9 5 none 0 0 Try.underlying25 Try.underlying5 Try.underlying9]
    simp [Conv.bytesToString]
    rfl
  · have hc := run_convert_bytes_back (P := Try.prog) w 25 9 5 x cap (l.map fun c => UInt8.ofNat c.toNat) Try.underlying25 Try.underlying5 Try.underlying9 (fun j hj => by
      rw [List.length_map] at hj
      rw [h j l[j] (List.getElem?_eq_getElem hj)]
      have := l[j].isLt
      simp [nv])
    rw [List.length_map] at hc
    exact hc
theorem bs_inj {l r : List (BitVec 8)} (h : bs l = bs r) : l = r := by
  have h1 : (l.map fun c => UInt8.ofNat c.toNat) = (r.map fun c => UInt8.ofNat c.toNat) := by
    have := congrArg (fun b : ByteArray => b.data.toList) h
    simpa [bs] using this
  refine List.map_inj_right (fun x y e => ?_) |>.1 h1
  have := congrArg UInt8.toNat e
  have := x.isLt
  have := y.isLt
  apply BitVec.eq_of_toNat_eq
  simp at *
  omega
theorem bs_beq (l r : List (BitVec 8)) : ((bs l).toList == (bs r).toList) = (l == r) := by
  rw [Bool.eq_iff_iff, beq_iff_eq, beq_iff_eq, ByteArray.toList_eq, ByteArray.toList_eq]
  constructor
  · intro h; apply bs_inj; unfold bs at *; simp at h; simp [h]
  · rintro rfl; rfl
theorem ret_bool {a b : Bool} (h : a = b) : Ending.returned (.bool a) = .returned (.bool b) := by rw [h]
theorem same_any (a a' : Option Addr) (cap cap' : Nat) (l r : List (BitVec 8)) (w : World) (hl : Vw w a cap l) (hr : Vw w a' cap' r) :
    Calls Try.prog 11 #[.slice a l.length cap, .slice a' r.length cap'] w fun e w' => e = .returned (.bool (l == r)) ∧ w = w' := by
  have h1 := run_str hl
  have h2 := run_str hr
  go_enter Try.func11, Try.ntmps11
  go_wp2
  go_ret
  exact ⟨ret_bool (bs_beq l r), rfl⟩
theorem Try.info5' : (Try.prog.info? 5).map (fun i => (i.zero, i.size, i.bytes)) = some (some (.int .u8 0), 1, 1) := by kernel_rfl
def Copied (l : List (BitVec 8)) (w : World) (e : Ending) (w' : World) : Prop :=
  ∃ v, e = .returned v ∧ w'.ownsRow w.heap.size 5 1 v l.length (cells l) ∧ Below w.heap.size w w'
theorem copy_any (a : Option Addr) (cap : Nat) (l : List (BitVec 8)) (w : World) (hv : Vw w a cap l) (hl : l.length ≤ 100000) :
    Calls Try.prog 9 #[.slice a l.length cap] w (Copied l w) := by
  obtain ⟨i0, hi, hz0, hz1, hz2⟩ := info_parts Try.info5'
  have hlen := hv.len
  rcases hv with ⟨rfl, rfl, rfl⟩ | ⟨ad, rfl, h1, h2, h3⟩
  · go_enter Try.func9, Try.ntmps9
    go_wp2_with (first
      | (at_make; refine wpList_make_own _ rfl _ _ 25 rfl w.heap.size 5 i0 (.int .u8 0) 1 Try.underlying25 hi hz0 hz1 .i64 .i64 _ 0 rfl rfl rfl (by omega) (by unfold maxLen; omega) (Nat.le_refl _) ?_; intro w1 hown1 hg1)
      | (at_builtin; refine wpList_append_own_none rfl _ _ 25 rfl w.heap.size 5 i0 1 Try.underlying25 hi hz1 _ 0 [] rfl hown1 rfl ?_))
    go_ret
    exact ⟨_, rfl, hown1, (Below.refl _ _).grown hg1 (Nat.le_refl _) (by simp)⟩
  · go_enter Try.func9, Try.ntmps9
    go_wp2_with (first
      | (at_make; refine wpList_make_own _ rfl _ _ 25 rfl w.heap.size 5 i0 (.int .u8 0) 1 Try.underlying25 hi hz0 hz1 .i64 .i64 _ l.length rfl rfl rfl (by rw [hz2]; omega) (by unfold maxLen; omega) (Nat.le_refl _) ?_; intro w1 hown1 hg1)
      | (at_builtin; refine wpList_append_own _ rfl _ _ 25 rfl w.heap.size 5 i0 (.int .u8 0) 1 1 Try.underlying25 hi hz0 hz1 hz2 rfl (by decide) _ _ _ rfl hown1 ad l.length cap (cells l) rfl (by rw [cells_length]; omega) ?c1 (cells_one l) ?c3 ?c4 ?c5 ?_))
    case c1 =>
      intro j u hu
      rw [cells_get] at hu
      cases hc : l[j]? with
      | none => rw [hc] at hu; cases hu
      | some c => rw [hc] at hu; cases hu; exact hg1.cell (h3 j c hc) (by simp)
    case c3 => unfold maxLen; omega
    case c4 => omega
    case c5 => exact hg1.size
    intro v' w2 hown hg hnil
    clear h3
    go_wp2
    go_ret
    exact ⟨_, rfl, by simpa using hown, ((Below.refl _ _).grown hg1 (Nat.le_refl _) (by simp)).grown hg hg1.size (by simp [Value.ownBlock])⟩
end Go.Proofs.Ytbdlilgpalfnfaa
