/-
  No cell of these rows narrows 'for every input' (looked for: loops, veiled, ifaces, maps, wideKeys, modest, calm, conditions, laid).
  DERIVED. THE GIVEN ROWS OF THIS SEAT. 4 by the template 'for every input the law returns true; each argument reads behind the call as it read before'; 0 by the template 'total and deterministic' (their statements: YtbdlilgpalfnfaaTotals.lean).
  GIVEN WITH THE SEED: the statements are not yours to turn. If you find one false, say at which input.
  Laid BY PROGRAM, IN A SANDBOX (cutbox-rows.mjs): the forced cells as the released guide's own fill.sh prints them over the translation 759595a45074fa42… (all of the seat's roots in one cut). By AI agents, Wed Nov 11 2026. No macro, syntax, notation, axiom, sorry.
-/
import Derived.Test.YtbdlilgpalfnfaaChecked
import GoSem.Claim
import GoSem.ClaimJoined
import GoSem.ClaimMapViews
import Derived.JoinedTies
import Derived.KernelRfl
namespace Go.Proofs.Ytbdlilgpalfnfaa
/- THE CELL 'sum', in the pinned program and in every row, IS THE sha256 OF THE DUMP (.gsa) THAT YtbdlilgpalfnfaaProg.lean LOADS. Nothing in Lean hashes anything: it is a label: what it is worth is what the hold of that sum in a sandbox is worth. -/
noncomputable def Try.pinned : Pinned := { name := "ytbdlilgpalfnfaa", sum := "759595a45074fa42255776d53e0fa0d8109adbe1aad0ca148c64b92f40f63912", checked := Try.checked }
namespace Rows
def none {H : Type} : Left H := { results := [], args := [] }

/-- 'shalelaw11.ScrambleRound': WHATEVER THE INPUT: true; the input reads as it did. -/
def scrambleRoundSpec : ChangeSpec := { name := "scrambleRound", fn := fun _ => fun
  | [d1, d2, d3] => { results := [.lit (.bool true)], args := [d1, d2, d3] }
  | _ => none }
def scrambleRoundRow : OpenClaim := { program := "ytbdlilgpalfnfaa", sum := "759595a45074fa42255776d53e0fa0d8109adbe1aad0ca148c64b92f40f63912", func := "shale/shalelaw11.ScrambleRound", spec := "scrambleRound", unfollowed := true, recurses := true, apart := false }
def ScrambleRoundSaid : Prop := scrambleRoundRow.holds Try.pinned (OpenSpec.ofChange scrambleRoundSpec)

/-- ITS FALSE NEIGHBOUR: 'it returns false'. Refute it at one input. -/
def scrambleRoundWrong : ChangeSpec := { name := "scrambleRound", fn := fun _ => fun
  | [d1, d2, d3] => { results := [.lit (.bool false)], args := [d1, d2, d3] }
  | _ => none }
def ScrambleRoundWrongFalsely : Prop := scrambleRoundRow.holds Try.pinned (OpenSpec.ofChange scrambleRoundWrong)

/-- 'shalelaw11.ScrambleBack': WHATEVER THE INPUT: true; the input reads as it did. -/
def scrambleBackSpec : ChangeSpec := { name := "scrambleBack", fn := fun _ => fun
  | [d1, d2, d3] => { results := [.lit (.bool true)], args := [d1, d2, d3] }
  | _ => none }
def scrambleBackRow : OpenClaim := { program := "ytbdlilgpalfnfaa", sum := "759595a45074fa42255776d53e0fa0d8109adbe1aad0ca148c64b92f40f63912", func := "shale/shalelaw11.ScrambleBack", spec := "scrambleBack", unfollowed := true, recurses := true, apart := false }
def ScrambleBackSaid : Prop := scrambleBackRow.holds Try.pinned (OpenSpec.ofChange scrambleBackSpec)

/-- ITS FALSE NEIGHBOUR: 'it returns false'. Refute it at one input. -/
def scrambleBackWrong : ChangeSpec := { name := "scrambleBack", fn := fun _ => fun
  | [d1, d2, d3] => { results := [.lit (.bool false)], args := [d1, d2, d3] }
  | _ => none }
def ScrambleBackWrongFalsely : Prop := scrambleBackRow.holds Try.pinned (OpenSpec.ofChange scrambleBackWrong)

/-- 'shalelaw11.ScrambleApart': WHATEVER THE INPUT: true; the input reads as it did. -/
def scrambleApartSpec : ChangeSpec := { name := "scrambleApart", fn := fun _ => fun
  | [d1, d2] => { results := [.lit (.bool true)], args := [d1, d2] }
  | _ => none }
def scrambleApartRow : OpenClaim := { program := "ytbdlilgpalfnfaa", sum := "759595a45074fa42255776d53e0fa0d8109adbe1aad0ca148c64b92f40f63912", func := "shale/shalelaw11.ScrambleApart", spec := "scrambleApart", unfollowed := true, recurses := true, apart := false }
def ScrambleApartSaid : Prop := scrambleApartRow.holds Try.pinned (OpenSpec.ofChange scrambleApartSpec)

/-- ITS FALSE NEIGHBOUR: 'it returns false'. Refute it at one input. -/
def scrambleApartWrong : ChangeSpec := { name := "scrambleApart", fn := fun _ => fun
  | [d1, d2] => { results := [.lit (.bool false)], args := [d1, d2] }
  | _ => none }
def ScrambleApartWrongFalsely : Prop := scrambleApartRow.holds Try.pinned (OpenSpec.ofChange scrambleApartWrong)

/-- 'shalelaw11.ScrambleSays': WHATEVER THE INPUT: true; the input reads as it did. -/
def scrambleSaysSpec : ChangeSpec := { name := "scrambleSays", fn := fun _ => fun
  | [d1, d2, d3, d4] => { results := [.lit (.bool true)], args := [d1, d2, d3, d4] }
  | _ => none }
def scrambleSaysRow : OpenClaim := { program := "ytbdlilgpalfnfaa", sum := "759595a45074fa42255776d53e0fa0d8109adbe1aad0ca148c64b92f40f63912", func := "shale/shalelaw11.ScrambleSays", spec := "scrambleSays", unfollowed := true, recurses := true, apart := false }
def ScrambleSaysSaid : Prop := scrambleSaysRow.holds Try.pinned (OpenSpec.ofChange scrambleSaysSpec)

/-- ITS FALSE NEIGHBOUR: 'it returns false'. Refute it at one input. -/
def scrambleSaysWrong : ChangeSpec := { name := "scrambleSays", fn := fun _ => fun
  | [d1, d2, d3, d4] => { results := [.lit (.bool false)], args := [d1, d2, d3, d4] }
  | _ => none }
def ScrambleSaysWrongFalsely : Prop := scrambleSaysRow.holds Try.pinned (OpenSpec.ofChange scrambleSaysWrong)

/- THE SECOND FORM. 'bulk': how many values and letters a reading holds, each counted each time it is reached (what is shared counts as often as it is met; a slice's spare places count too). A statement '..UptoSaid' is the law's where the arguments, and the package variables that the reading takes, are together of bulk at most 1048576: NARROWER than '..Said'. Prove '..Said' where nothing that the law and all that it calls make is longer than what came in: it says more and counts as full. Else prove '..UptoSaid'. A law counts once. -/
mutual
def uptoBulk {H : Type} : DataW H → Nat
  | .lit (.string bytes) => bytes.length + 1
  | .lit _ => 1
  | .nil => 1
  | .ptr d => uptoBulk d + 1
  | .slice elems spare => uptoBulkAll elems + uptoBulkAll spare + 1
  | .agg parts => uptoBulkAll parts + 1
  | .iface _ d => uptoBulk d + 1
  | .map entries => uptoBulkEntries entries + 1
  | .held _ => 1
def uptoBulkAll {H : Type} : List (DataW H) → Nat
  | [] => 0
  | d :: r => uptoBulk d + uptoBulkAll r
def uptoBulkEntries {H : Type} : List (Lit × DataW H) → Nat
  | [] => 0
  | x :: r => uptoBulkEntry x + uptoBulkEntries r
def uptoBulkEntry {H : Type} : Lit × DataW H → Nat
  | (.string bytes, d) => bytes.length + uptoBulk d + 1
  | (_, d) => uptoBulk d + 1
 end
def uptoSmall : (H : Type) → List (DataW H) → Bool := fun _ ds => decide (uptoBulkAll ds ≤ 1048576)
def OpenSpec.upto (s : _root_.Go.ChangeSpec) : _root_.Go.OpenSpec := { _root_.Go.OpenSpec.ofChange s with cond := some uptoSmall }

/-- 'shalelaw11.ScrambleRound', WHERE WHAT IT READS IS OF BULK AT MOST 1048576: true; the input reads as it did. -/
def scrambleRoundUptoRow : OpenClaim := { program := "ytbdlilgpalfnfaa", sum := "759595a45074fa42255776d53e0fa0d8109adbe1aad0ca148c64b92f40f63912", func := "shale/shalelaw11.ScrambleRound", spec := "scrambleRound", unfollowed := true, recurses := true, apart := false, narrowed := true }
def ScrambleRoundUptoSaid : Prop := scrambleRoundUptoRow.holds Try.pinned (OpenSpec.upto scrambleRoundSpec)

/-- 'shalelaw11.ScrambleBack', WHERE WHAT IT READS IS OF BULK AT MOST 1048576: true; the input reads as it did. -/
def scrambleBackUptoRow : OpenClaim := { program := "ytbdlilgpalfnfaa", sum := "759595a45074fa42255776d53e0fa0d8109adbe1aad0ca148c64b92f40f63912", func := "shale/shalelaw11.ScrambleBack", spec := "scrambleBack", unfollowed := true, recurses := true, apart := false, narrowed := true }
def ScrambleBackUptoSaid : Prop := scrambleBackUptoRow.holds Try.pinned (OpenSpec.upto scrambleBackSpec)

/-- 'shalelaw11.ScrambleApart', WHERE WHAT IT READS IS OF BULK AT MOST 1048576: true; the input reads as it did. -/
def scrambleApartUptoRow : OpenClaim := { program := "ytbdlilgpalfnfaa", sum := "759595a45074fa42255776d53e0fa0d8109adbe1aad0ca148c64b92f40f63912", func := "shale/shalelaw11.ScrambleApart", spec := "scrambleApart", unfollowed := true, recurses := true, apart := false, narrowed := true }
def ScrambleApartUptoSaid : Prop := scrambleApartUptoRow.holds Try.pinned (OpenSpec.upto scrambleApartSpec)

/-- 'shalelaw11.ScrambleSays', WHERE WHAT IT READS IS OF BULK AT MOST 1048576: true; the input reads as it did. -/
def scrambleSaysUptoRow : OpenClaim := { program := "ytbdlilgpalfnfaa", sum := "759595a45074fa42255776d53e0fa0d8109adbe1aad0ca148c64b92f40f63912", func := "shale/shalelaw11.ScrambleSays", spec := "scrambleSays", unfollowed := true, recurses := true, apart := false, narrowed := true }
def ScrambleSaysUptoSaid : Prop := scrambleSaysUptoRow.holds Try.pinned (OpenSpec.upto scrambleSaysSpec)

end Rows
end Go.Proofs.Ytbdlilgpalfnfaa
