/- What the listed sentinel gives a walk, a world that meets the list, and a record that is handed in by value; no condition. -/
import Derived.Test.YtmfkfheakahckaaDoorOrder
import Derived.Test.YtmfkfheakahckaaDoorCards
import Derived.Test.YtmfkfheakahckaaDoorTie
import Derived.ProofKit
import Derived.OpenShut
import Derived.ChangeOld
import Derived.Below
import Derived.Deep.DeepHandedRow
import Derived.Deep.Fields
import Derived.LaidLaws
import Derived.Stop.ErrReads
import Derived.Lib.SmallJoins
set_option linter.unusedVariables false
namespace Go.Proofs.YtmfkfheakahckaaDoor
open Go.ChangeShapes Go.WideShapes Go.ChangeAt Go.RowKit Go.Joins Go.Deep
theorem own : ownKnob Tryd.prog.godebug = none := by kernel_rfl
theorem laidOut : laidOutB Tryd.prog = true := by kernel_rfl
theorem gErr : Tryd.prog.globalNamed "shale/api.ErrRecord" = some 0 := by kernel_rfl
theorem gErrType : (Tryd.prog.globals[0]?).map (·.type) = some 27 := by kernel_rfl
theorem cells85 : Tryd.prog.cellsOf 85 = 1 := by kernel_rfl
theorem cells9 : Tryd.prog.cellsOf 9 = 1 := by kernel_rfl
theorem cells3 : Tryd.prog.cellsOf 3 = 1 := by kernel_rfl
theorem cells23 : Tryd.prog.cellsOf 23 = 6 := by kernel_rfl
theorem star : "*" ++ "errors.errorString" = "*errors.errorString" := by decide
theorem row69 (u : TypeId) (h : Tryd.prog.typeName? 3 u = some "*errors.errorString") : u = 69 :=
  typeName_ptr_named (nm := "errors.errorString") (by rw [star]; kernel_rfl) (by kernel_rfl) (by decide) u (by rw [star]; exact h)
/-- the list, as every row of this seat has it -/
abbrev laidE {H : Type} : List (String × DataW H) := [("shale/api.ErrRecord", Rows.laid_shale_api_ErrRecord)]
theorem sentinel_of_laid {W : World} (h0 : laidMetH Tryd.prog laidE W) : ∃ x, Sent W (sen x) := by
  have h : laidMet Tryd.prog laidE W := h0
  obtain ⟨ps, ⟨g0, t0, cs0, f0, p0, q0, hg0, ht0, hv0, hd0, hq0, e0⟩, hnd, hrows⟩ := h
  obtain rfl := Option.some.inj (gErr.symm.trans hg0)
  obtain rfl := Option.some.inj (gErrType.symm.trans ht0)
  have hq0' : q0 = [] := hq0
  subst hq0'
  subst e0
  obtain ⟨l0⟩ := cs0
  have ok0 : ∀ u v, l0 = [.iface u v] → Value.okWide Tryd.prog W .any 0 u v := fun u v e => by
    subst e
    exact (hrows 0 0 (by simp [MemPlace.row])).2 u v (by simpa using World.var?_cell hg0 hv0 0)
  obtain ⟨a0, s0, rfl, hc0, hs0, hz0, rfl⟩ := errorString_of_trod Tryd.underlying27 row69 Tryd.underlying69 Tryd.underlying85 rfl rfl Tryd.underlying9 cells85 cells9 hd0 ok0
  have hcell : W.cell? ⟨0, 0, none⟩ = some (sen a0) := by simpa using World.var?_cell hg0 hv0 0
  exact ⟨a0, hcell, World.block_lt_of_cell? W _ hcell⟩
abbrev noRecord : ByteArray := { data := #[110, 111, 32, 114, 101, 99, 111, 114, 100] }
noncomputable def low : Nat := (World.holding Tryd.prog default ⟨#[], #[], []⟩).heap.size
/-- a world that meets the list -/
noncomputable def laidWorld (os : Os) : World :=
  { World.holding Tryd.prog os ⟨#[.cells #[.string noRecord] 85], #[], []⟩ with heap := (World.holding Tryd.prog os ⟨#[.cells #[.string noRecord] 85], #[], []⟩).heap.modify 0 fun
      | .cells _ t frozen => .cells #[.iface 69 (.pointer (some ⟨low, 0, none⟩))] t frozen
      | o => o }
theorem laid_met (os : Os) (args : Array Value) : laidMet Tryd.prog laidE ((laidWorld os).forCall (fun _ _ => 0) ⟨#[], args, []⟩).memory :=
  laidMet_of_run (ps := [.cell 0 0, .cell low 0]) 8 (by kernel_rfl) (by kernel_rfl) (by kernel_rfl)
section
variable {H : Type} {enc : TypeId × Value → H} {w : World} {base : Nat} {spare : Nat → Bool} {held : Bool}
/-- a record by value is six integers -/
theorem open_meta {r : Reach} {b0 : Nat} {v : Value} {d : DataW H} {p : List MemPlace} (hv : Value.okWide Tryd.prog w r b0 23 v) (h : DataW.Trod enc Tryd.prog w base spare held 23 v d p) : ∃ m : Nat → Int, v = rv m := by
  obtain ⟨cs, rfl, hsz⟩ := okWide_struct Tryd.underlying23 hv
  obtain ⟨l⟩ := cs
  match l, hsz.trans cells23 with
  | [c0, c1, c2, c3, c4, c5], _ =>
    obtain ⟨fuel, hf⟩ := h
    obtain ⟨xs, n, _, hx, _, hlen, hg⟩ := DataW.trod_struct Tryd.underlying23 hf
    have one : ∀ (j : Nat) (c : Value), (#[c0, c1, c2, c3, c4, c5] : Array Value)[j]? = some c → DataW.trod enc Tryd.prog w base spare held n 3 [c] = xs[j]? → j < 6 → ∃ a : Int, c = .int .i64 a := fun j c hc ht hj => by
      rw [List.getElem?_eq_getElem (show j < xs.length by rw [hlen]; exact hj)] at ht
      obtain ⟨a, e, _, _⟩ := DataW.trod_int Tryd.underlying3 ht
      simp at e
      exact ⟨a, e⟩
    obtain ⟨a0, rfl⟩ := one 0 c0 rfl (by simpa [Value.cells, cells3] using hg 0 _ rfl) (by decide)
    obtain ⟨a1, rfl⟩ := one 1 c1 rfl (by simpa [Value.cells, cells3] using hg 1 _ rfl) (by decide)
    obtain ⟨a2, rfl⟩ := one 2 c2 rfl (by simpa [Value.cells, cells3] using hg 2 _ rfl) (by decide)
    obtain ⟨a3, rfl⟩ := one 3 c3 rfl (by simpa [Value.cells, cells3] using hg 3 _ rfl) (by decide)
    obtain ⟨a4, rfl⟩ := one 4 c4 rfl (by simpa [Value.cells, cells3] using hg 4 _ rfl) (by decide)
    obtain ⟨a5, rfl⟩ := one 5 c5 rfl (by simpa [Value.cells, cells3] using hg 5 _ rfl) (by decide)
    exact ⟨fun i => match i with | 0 => a0 | 1 => a1 | 2 => a2 | 3 => a3 | 4 => a4 | _ => a5, rfl⟩
end
end Go.Proofs.YtmfkfheakahckaaDoor
