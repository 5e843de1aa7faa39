/-
  NARROWER THAN 'FOR EVERY INPUT', by the rows' own cells (each row's printed sentence says how): MetaCut: laid · MetaBack: laid · MetaUnlike: laid · MetaSays: laid · MetaOrder: laid.
  DERIVED. THE GIVEN ROWS OF THIS SEAT. 5 by the template 'for every input the law returns true; each argument reads behind the call as it read before'; 0 by the template 'total and deterministic' (their statements: YtmfkfheakahckaaDoorTotals.lean).
  GIVEN WITH THE SEED: the statements are not yours to turn. If you find one false, say at which input.
  Laid BY PROGRAM, IN A SANDBOX (cutbox-rows.mjs): the forced cells as the released guide's own fill.sh prints them over the translation fce3968ef776cdee… (all of the seat's roots in one cut). By AI agents, Wed Nov 11 2026. No macro, syntax, notation, axiom, sorry.
-/
import Derived.Test.YtmfkfheakahckaaDoorChecked
import GoSem.Claim
import GoSem.ClaimJoined
import GoSem.ClaimMapViews
import Derived.JoinedTies
import Derived.KernelRfl
namespace Go.Proofs.YtmfkfheakahckaaDoor
/- THE CELL 'sum', in the pinned program and in every row, IS THE sha256 OF THE DUMP (.gsa) THAT YtmfkfheakahckaaDoorProg.lean LOADS. Nothing in Lean hashes anything: it is a label: what it is worth is what the hold of that sum in a sandbox is worth. -/
noncomputable def Tryd.pinned : Pinned := { name := "ytmfkfheakahckaadoor", sum := "fce3968ef776cdeef426262e25a514ef05daba8de276a1b8d5f03cd9f87f9a25", checked := Tryd.checked }
namespace Rows
def none {H : Type} : Left H := { results := [], args := [] }

/- WHAT THE LISTED PACKAGE-LEVEL VARIABLES READ AS WHEN THE CALL BEGINS. Each datum BY PROGRAM (the guide's laid-datum.mjs) off the statement by which the dump's own 'gosem.cut.vars' lays the variable. In a bare row this is a premise. The card (YtmfkfheakahckaaDoorCards.lean) ties it to the program's text. -/
def laid_shale_api_ErrRecord {H : Type} : DataW H := .iface "*errors.errorString" (.ptr (.agg [.lit (.string [110, 111, 32, 114, 101, 99, 111, 114, 100])]))

/-- 'shalelaw12.MetaCut': WHATEVER THE INPUT: true; the input reads as it did. -/
def metaCutSpec : ChangeSpec := { name := "metaCut", fn := fun _ => fun
  | [d1, d2, d3, d4] => { results := [.lit (.bool true)], args := [d1, d2, d3, d4] }
  | _ => none }
def metaCutRow : OpenClaim := { program := "ytmfkfheakahckaadoor", sum := "fce3968ef776cdeef426262e25a514ef05daba8de276a1b8d5f03cd9f87f9a25", func := "shale/shalelaw12.MetaCut", spec := "metaCut", unfollowed := true, recurses := true, named := ["shale/api.ErrRecord"], apart := false, laid := [("shale/api.ErrRecord", laid_shale_api_ErrRecord)] }
def MetaCutSaid : Prop := metaCutRow.holds Tryd.pinned (OpenSpec.ofChange metaCutSpec)

/-- ITS FALSE NEIGHBOUR: 'it returns false'. Refute it at one input. -/
def metaCutWrong : ChangeSpec := { name := "metaCut", fn := fun _ => fun
  | [d1, d2, d3, d4] => { results := [.lit (.bool false)], args := [d1, d2, d3, d4] }
  | _ => none }
def MetaCutWrongFalsely : Prop := metaCutRow.holds Tryd.pinned (OpenSpec.ofChange metaCutWrong)

/-- 'shalelaw12.MetaBack': WHATEVER THE INPUT: true; the input reads as it did. -/
def metaBackSpec : ChangeSpec := { name := "metaBack", fn := fun _ => fun
  | [d1, d2, d3] => { results := [.lit (.bool true)], args := [d1, d2, d3] }
  | _ => none }
def metaBackRow : OpenClaim := { program := "ytmfkfheakahckaadoor", sum := "fce3968ef776cdeef426262e25a514ef05daba8de276a1b8d5f03cd9f87f9a25", func := "shale/shalelaw12.MetaBack", spec := "metaBack", unfollowed := true, recurses := true, named := ["shale/api.ErrRecord"], apart := false, laid := [("shale/api.ErrRecord", laid_shale_api_ErrRecord)] }
def MetaBackSaid : Prop := metaBackRow.holds Tryd.pinned (OpenSpec.ofChange metaBackSpec)

/-- ITS FALSE NEIGHBOUR: 'it returns false'. Refute it at one input. -/
def metaBackWrong : ChangeSpec := { name := "metaBack", fn := fun _ => fun
  | [d1, d2, d3] => { results := [.lit (.bool false)], args := [d1, d2, d3] }
  | _ => none }
def MetaBackWrongFalsely : Prop := metaBackRow.holds Tryd.pinned (OpenSpec.ofChange metaBackWrong)

/-- 'shalelaw12.MetaUnlike': WHATEVER THE INPUT: true; the input reads as it did. -/
def metaUnlikeSpec : ChangeSpec := { name := "metaUnlike", fn := fun _ => fun
  | [d1, d2, d3, d4] => { results := [.lit (.bool true)], args := [d1, d2, d3, d4] }
  | _ => none }
def metaUnlikeRow : OpenClaim := { program := "ytmfkfheakahckaadoor", sum := "fce3968ef776cdeef426262e25a514ef05daba8de276a1b8d5f03cd9f87f9a25", func := "shale/shalelaw12.MetaUnlike", spec := "metaUnlike", unfollowed := true, recurses := true, named := ["shale/api.ErrRecord"], apart := false, laid := [("shale/api.ErrRecord", laid_shale_api_ErrRecord)] }
def MetaUnlikeSaid : Prop := metaUnlikeRow.holds Tryd.pinned (OpenSpec.ofChange metaUnlikeSpec)

/-- ITS FALSE NEIGHBOUR: 'it returns false'. Refute it at one input. -/
def metaUnlikeWrong : ChangeSpec := { name := "metaUnlike", fn := fun _ => fun
  | [d1, d2, d3, d4] => { results := [.lit (.bool false)], args := [d1, d2, d3, d4] }
  | _ => none }
def MetaUnlikeWrongFalsely : Prop := metaUnlikeRow.holds Tryd.pinned (OpenSpec.ofChange metaUnlikeWrong)

/-- 'shalelaw12.MetaSays': WHATEVER THE INPUT: true; the input reads as it did. -/
def metaSaysSpec : ChangeSpec := { name := "metaSays", fn := fun _ => fun
  | [d1, d2, d3, d4, d5] => { results := [.lit (.bool true)], args := [d1, d2, d3, d4, d5] }
  | _ => none }
def metaSaysRow : OpenClaim := { program := "ytmfkfheakahckaadoor", sum := "fce3968ef776cdeef426262e25a514ef05daba8de276a1b8d5f03cd9f87f9a25", func := "shale/shalelaw12.MetaSays", spec := "metaSays", unfollowed := true, recurses := true, named := ["shale/api.ErrRecord"], apart := false, laid := [("shale/api.ErrRecord", laid_shale_api_ErrRecord)] }
def MetaSaysSaid : Prop := metaSaysRow.holds Tryd.pinned (OpenSpec.ofChange metaSaysSpec)

/-- ITS FALSE NEIGHBOUR: 'it returns false'. Refute it at one input. -/
def metaSaysWrong : ChangeSpec := { name := "metaSays", fn := fun _ => fun
  | [d1, d2, d3, d4, d5] => { results := [.lit (.bool false)], args := [d1, d2, d3, d4, d5] }
  | _ => none }
def MetaSaysWrongFalsely : Prop := metaSaysRow.holds Tryd.pinned (OpenSpec.ofChange metaSaysWrong)

/-- 'shalelaw12.MetaOrder': WHATEVER THE INPUT: true; the input reads as it did. -/
def metaOrderSpec : ChangeSpec := { name := "metaOrder", fn := fun _ => fun
  | [d1, d2, d3, d4, d5] => { results := [.lit (.bool true)], args := [d1, d2, d3, d4, d5] }
  | _ => none }
def metaOrderRow : OpenClaim := { program := "ytmfkfheakahckaadoor", sum := "fce3968ef776cdeef426262e25a514ef05daba8de276a1b8d5f03cd9f87f9a25", func := "shale/shalelaw12.MetaOrder", spec := "metaOrder", unfollowed := true, recurses := true, named := ["shale/api.ErrRecord"], apart := false, laid := [("shale/api.ErrRecord", laid_shale_api_ErrRecord)] }
def MetaOrderSaid : Prop := metaOrderRow.holds Tryd.pinned (OpenSpec.ofChange metaOrderSpec)

/-- ITS FALSE NEIGHBOUR: 'it returns false'. Refute it at one input. -/
def metaOrderWrong : ChangeSpec := { name := "metaOrder", fn := fun _ => fun
  | [d1, d2, d3, d4, d5] => { results := [.lit (.bool false)], args := [d1, d2, d3, d4, d5] }
  | _ => none }
def MetaOrderWrongFalsely : Prop := metaOrderRow.holds Tryd.pinned (OpenSpec.ofChange metaOrderWrong)

/- THE SECOND FORM. 'bulk': how many values and letters a reading holds, each counted each time it is reached (what is shared counts as often as it is met; a slice's spare places count too). A statement '..UptoSaid' is the law's where the arguments, and the package variables that the reading takes, are together of bulk at most 1048576: NARROWER than '..Said'. Prove '..Said' where nothing that the law and all that it calls make is longer than what came in: it says more and counts as full. Else prove '..UptoSaid'. A law counts once. -/
mutual
def uptoBulk {H : Type} : DataW H → Nat
  | .lit (.string bytes) => bytes.length + 1
  | .lit _ => 1
  | .nil => 1
  | .ptr d => uptoBulk d + 1
  | .slice elems spare => uptoBulkAll elems + uptoBulkAll spare + 1
  | .agg parts => uptoBulkAll parts + 1
  | .iface _ d => uptoBulk d + 1
  | .map entries => uptoBulkEntries entries + 1
  | .held _ => 1
def uptoBulkAll {H : Type} : List (DataW H) → Nat
  | [] => 0
  | d :: r => uptoBulk d + uptoBulkAll r
def uptoBulkEntries {H : Type} : List (Lit × DataW H) → Nat
  | [] => 0
  | x :: r => uptoBulkEntry x + uptoBulkEntries r
def uptoBulkEntry {H : Type} : Lit × DataW H → Nat
  | (.string bytes, d) => bytes.length + uptoBulk d + 1
  | (_, d) => uptoBulk d + 1
 end
def uptoSmall : (H : Type) → List (DataW H) → Bool := fun _ ds => decide (uptoBulkAll ds ≤ 1048576)
def OpenSpec.upto (s : _root_.Go.ChangeSpec) : _root_.Go.OpenSpec := { _root_.Go.OpenSpec.ofChange s with cond := some uptoSmall }

/-- 'shalelaw12.MetaCut', WHERE WHAT IT READS IS OF BULK AT MOST 1048576: true; the input reads as it did. -/
def metaCutUptoRow : OpenClaim := { program := "ytmfkfheakahckaadoor", sum := "fce3968ef776cdeef426262e25a514ef05daba8de276a1b8d5f03cd9f87f9a25", func := "shale/shalelaw12.MetaCut", spec := "metaCut", unfollowed := true, recurses := true, named := ["shale/api.ErrRecord"], apart := false, laid := [("shale/api.ErrRecord", laid_shale_api_ErrRecord)], narrowed := true }
def MetaCutUptoSaid : Prop := metaCutUptoRow.holds Tryd.pinned (OpenSpec.upto metaCutSpec)

/-- 'shalelaw12.MetaBack', WHERE WHAT IT READS IS OF BULK AT MOST 1048576: true; the input reads as it did. -/
def metaBackUptoRow : OpenClaim := { program := "ytmfkfheakahckaadoor", sum := "fce3968ef776cdeef426262e25a514ef05daba8de276a1b8d5f03cd9f87f9a25", func := "shale/shalelaw12.MetaBack", spec := "metaBack", unfollowed := true, recurses := true, named := ["shale/api.ErrRecord"], apart := false, laid := [("shale/api.ErrRecord", laid_shale_api_ErrRecord)], narrowed := true }
def MetaBackUptoSaid : Prop := metaBackUptoRow.holds Tryd.pinned (OpenSpec.upto metaBackSpec)

/-- 'shalelaw12.MetaUnlike', WHERE WHAT IT READS IS OF BULK AT MOST 1048576: true; the input reads as it did. -/
def metaUnlikeUptoRow : OpenClaim := { program := "ytmfkfheakahckaadoor", sum := "fce3968ef776cdeef426262e25a514ef05daba8de276a1b8d5f03cd9f87f9a25", func := "shale/shalelaw12.MetaUnlike", spec := "metaUnlike", unfollowed := true, recurses := true, named := ["shale/api.ErrRecord"], apart := false, laid := [("shale/api.ErrRecord", laid_shale_api_ErrRecord)], narrowed := true }
def MetaUnlikeUptoSaid : Prop := metaUnlikeUptoRow.holds Tryd.pinned (OpenSpec.upto metaUnlikeSpec)

/-- 'shalelaw12.MetaSays', WHERE WHAT IT READS IS OF BULK AT MOST 1048576: true; the input reads as it did. -/
def metaSaysUptoRow : OpenClaim := { program := "ytmfkfheakahckaadoor", sum := "fce3968ef776cdeef426262e25a514ef05daba8de276a1b8d5f03cd9f87f9a25", func := "shale/shalelaw12.MetaSays", spec := "metaSays", unfollowed := true, recurses := true, named := ["shale/api.ErrRecord"], apart := false, laid := [("shale/api.ErrRecord", laid_shale_api_ErrRecord)], narrowed := true }
def MetaSaysUptoSaid : Prop := metaSaysUptoRow.holds Tryd.pinned (OpenSpec.upto metaSaysSpec)

/-- 'shalelaw12.MetaOrder', WHERE WHAT IT READS IS OF BULK AT MOST 1048576: true; the input reads as it did. -/
def metaOrderUptoRow : OpenClaim := { program := "ytmfkfheakahckaadoor", sum := "fce3968ef776cdeef426262e25a514ef05daba8de276a1b8d5f03cd9f87f9a25", func := "shale/shalelaw12.MetaOrder", spec := "metaOrder", unfollowed := true, recurses := true, named := ["shale/api.ErrRecord"], apart := false, laid := [("shale/api.ErrRecord", laid_shale_api_ErrRecord)], narrowed := true }
def MetaOrderUptoSaid : Prop := metaOrderUptoRow.holds Tryd.pinned (OpenSpec.upto metaOrderSpec)

end Rows
end Go.Proofs.YtmfkfheakahckaaDoor
