/- From what a row says of a slice that came in to what the walks ask; no condition. -/
import Derived.Test.YtbdlilgpalfnfaaBackNil
import Derived.OpenShut
set_option linter.unusedVariables false
namespace Go.Proofs.Ytbdlilgpalfnfaa
open Go.RowKit

/-- WHAT A ROW TELLS OF A SLICE OF INTEGERS THAT CAME IN. -/
def IsRow (k : IntKind) (w : World) (a : Option Addr) (len cap : Nat) (zs : List Int) : Prop :=
  (a = none ∧ len = 0 ∧ cap = 0 ∧ zs = []) ∨
  ∃ x, a = some x ∧ len ≤ cap ∧ cap ≤ maxLen ∧ zs.length = cap ∧ (∀ i, i < zs.length → w.cell? (x.add i) = some (.int k (zs.getD i 0))) ∧ ∀ n ∈ zs, (Lit.int k n).wf = true
theorem IsRow.view {w : World} {a : Option Addr} {len cap : Nat} {zs : List Int} (h : IsRow .u8 w a len cap zs) : ∃ bl : List (BitVec 8), bl.length = len ∧ Vw w a cap bl := by
  rcases h with ⟨rfl, rfl, rfl, rfl⟩ | ⟨x, rfl, h1, h2, h3, h4, h5⟩
  · exact ⟨[], rfl, Vw.nil w⟩
  · have hl : ((zs.take len).map (BitVec.ofInt 8)).length = len := by rw [List.length_map, List.length_take]; omega
    refine ⟨(zs.take len).map (BitVec.ofInt 8), hl, .inr ⟨x, rfl, by omega, h2, fun i c hc => ?_⟩⟩
    rw [List.getElem?_map, List.getElem?_take] at hc
    split at hc
    · have hi : i < zs.length := by omega
      rw [List.getElem?_eq_getElem hi] at hc
      simp only [Option.map_some, Option.some.injEq] at hc
      rw [h4 i hi, ← hc]
      have hb := bounds_u8 (h5 zs[i] (List.getElem_mem hi))
      have e : zs.getD i 0 = zs[i] := by simp [List.getD, List.getElem?_eq_getElem hi]
      rw [e]
      unfold nv
      rw [BitVec.toNat_ofInt]
      congr 2
      omega
    · cases hc
theorem IsRow.ints {w : World} {a : Option Addr} {len cap : Nat} {zs : List Int} (h : IsRow .i64 w a len cap zs) : ∃ cs : List Int, cs.length = len ∧ Iw w a cap cs := by
  rcases h with ⟨rfl, rfl, rfl, rfl⟩ | ⟨x, rfl, h1, h2, h3, h4, h5⟩
  · exact ⟨[], rfl, .inl ⟨rfl, rfl, rfl⟩⟩
  · have hl : (zs.take len).length = len := by rw [List.length_take]; omega
    refine ⟨zs.take len, hl, .inr ⟨x, rfl, by omega, h2, fun i c hc => ?_⟩⟩
    rw [List.getElem?_take] at hc
    split at hc
    · have hi : i < zs.length := by omega
      rw [h4 i hi]
      simp [List.getD, hc]
    · cases hc
end Go.Proofs.Ytbdlilgpalfnfaa
