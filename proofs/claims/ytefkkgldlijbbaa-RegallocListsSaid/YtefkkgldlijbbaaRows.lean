/-
  No cell of these rows narrows 'for every input' (looked for: loops, veiled, ifaces, maps, wideKeys, modest, calm, conditions, laid).
  DERIVED. THE GIVEN ROWS OF THIS SEAT. 4 by the template 'for every input the law returns true; each argument reads behind the call as it read before'; 0 by the template 'total and deterministic' (their statements: YtefkkgldlijbbaaTotals.lean).
  GIVEN WITH THE SEED: the statements are not yours to turn. If you find one false, say at which input.
  Laid BY PROGRAM, IN A SANDBOX (cutbox-rows.mjs): the forced cells as the released guide's own fill.sh prints them over the translation 44ec660150920f5b… (all of the seat's roots in one cut). By AI agents, Wed Nov 11 2026. No macro, syntax, notation, axiom, sorry.
-/
import Derived.Test.YtefkkgldlijbbaaChecked
import GoSem.Claim
import GoSem.ClaimJoined
import GoSem.ClaimMapViews
import Derived.JoinedTies
import Derived.KernelRfl
namespace Go.Proofs.Ytefkkgldlijbbaa
/- THE CELL 'sum', in the pinned program and in every row, IS THE sha256 OF THE DUMP (.gsa) THAT YtefkkgldlijbbaaProg.lean LOADS. Nothing in Lean hashes anything: it is a label: what it is worth is what the hold of that sum in a sandbox is worth. -/
noncomputable def Try.pinned : Pinned := { name := "ytefkkgldlijbbaa", sum := "44ec660150920f5ba7afba5802128f2a3fa458d45db726ae8579c09206acdbb4", checked := Try.checked }
namespace Rows
def none {H : Type} : Left H := { results := [], args := [] }

/-- 'ontimelaw20.RegallocColors': WHATEVER THE INPUT: true; the input reads as it did. -/
def regallocColorsSpec : ChangeSpec := { name := "regallocColors", fn := fun _ => fun
  | [d1, d2] => { results := [.lit (.bool true)], args := [d1, d2] }
  | _ => none }
def regallocColorsRow : OpenClaim := { program := "ytefkkgldlijbbaa", sum := "44ec660150920f5ba7afba5802128f2a3fa458d45db726ae8579c09206acdbb4", func := "ontime/ontimelaw20.RegallocColors", spec := "regallocColors", apart := false }
def RegallocColorsSaid : Prop := regallocColorsRow.holds Try.pinned (OpenSpec.ofChange regallocColorsSpec)

/-- ITS FALSE NEIGHBOUR: 'it returns false'. Refute it at one input. -/
def regallocColorsWrong : ChangeSpec := { name := "regallocColors", fn := fun _ => fun
  | [d1, d2] => { results := [.lit (.bool false)], args := [d1, d2] }
  | _ => none }
def RegallocColorsWrongFalsely : Prop := regallocColorsRow.holds Try.pinned (OpenSpec.ofChange regallocColorsWrong)

/-- 'ontimelaw20.RegallocProper': WHATEVER THE INPUT: true; the input reads as it did. -/
def regallocProperSpec : ChangeSpec := { name := "regallocProper", fn := fun _ => fun
  | [d1, d2] => { results := [.lit (.bool true)], args := [d1, d2] }
  | _ => none }
def regallocProperRow : OpenClaim := { program := "ytefkkgldlijbbaa", sum := "44ec660150920f5ba7afba5802128f2a3fa458d45db726ae8579c09206acdbb4", func := "ontime/ontimelaw20.RegallocProper", spec := "regallocProper", apart := false }
def RegallocProperSaid : Prop := regallocProperRow.holds Try.pinned (OpenSpec.ofChange regallocProperSpec)

/-- ITS FALSE NEIGHBOUR: 'it returns false'. Refute it at one input. -/
def regallocProperWrong : ChangeSpec := { name := "regallocProper", fn := fun _ => fun
  | [d1, d2] => { results := [.lit (.bool false)], args := [d1, d2] }
  | _ => none }
def RegallocProperWrongFalsely : Prop := regallocProperRow.holds Try.pinned (OpenSpec.ofChange regallocProperWrong)

/-- 'ontimelaw20.RegallocFew': WHATEVER THE INPUT: true; the input reads as it did. -/
def regallocFewSpec : ChangeSpec := { name := "regallocFew", fn := fun _ => fun
  | [d] => { results := [.lit (.bool true)], args := [d] }
  | _ => none }
def regallocFewRow : OpenClaim := { program := "ytefkkgldlijbbaa", sum := "44ec660150920f5ba7afba5802128f2a3fa458d45db726ae8579c09206acdbb4", func := "ontime/ontimelaw20.RegallocFew", spec := "regallocFew", apart := false }
def RegallocFewSaid : Prop := regallocFewRow.holds Try.pinned (OpenSpec.ofChange regallocFewSpec)

/-- ITS FALSE NEIGHBOUR: 'it returns false'. Refute it at one input. -/
def regallocFewWrong : ChangeSpec := { name := "regallocFew", fn := fun _ => fun
  | [d] => { results := [.lit (.bool false)], args := [d] }
  | _ => none }
def RegallocFewWrongFalsely : Prop := regallocFewRow.holds Try.pinned (OpenSpec.ofChange regallocFewWrong)

/-- 'ontimelaw20.RegallocLists': WHATEVER THE INPUT: true; the input reads as it did. -/
def regallocListsSpec : ChangeSpec := { name := "regallocLists", fn := fun _ => fun
  | [d1, d2] => { results := [.lit (.bool true)], args := [d1, d2] }
  | _ => none }
def regallocListsRow : OpenClaim := { program := "ytefkkgldlijbbaa", sum := "44ec660150920f5ba7afba5802128f2a3fa458d45db726ae8579c09206acdbb4", func := "ontime/ontimelaw20.RegallocLists", spec := "regallocLists", apart := false }
def RegallocListsSaid : Prop := regallocListsRow.holds Try.pinned (OpenSpec.ofChange regallocListsSpec)

/-- ITS FALSE NEIGHBOUR: 'it returns false'. Refute it at one input. -/
def regallocListsWrong : ChangeSpec := { name := "regallocLists", fn := fun _ => fun
  | [d1, d2] => { results := [.lit (.bool false)], args := [d1, d2] }
  | _ => none }
def RegallocListsWrongFalsely : Prop := regallocListsRow.holds Try.pinned (OpenSpec.ofChange regallocListsWrong)

/- THE SECOND FORM. 'bulk': how many values and letters a reading holds, each counted each time it is reached (what is shared counts as often as it is met; a slice's spare places count too). A statement '..UptoSaid' is the law's where the arguments, and the package variables that the reading takes, are together of bulk at most 1048576: NARROWER than '..Said'. Prove '..Said' where nothing that the law and all that it calls make is longer than what came in: it says more and counts as full. Else prove '..UptoSaid'. A law counts once. -/
mutual
def uptoBulk {H : Type} : DataW H → Nat
  | .lit (.string bytes) => bytes.length + 1
  | .lit _ => 1
  | .nil => 1
  | .ptr d => uptoBulk d + 1
  | .slice elems spare => uptoBulkAll elems + uptoBulkAll spare + 1
  | .agg parts => uptoBulkAll parts + 1
  | .iface _ d => uptoBulk d + 1
  | .map entries => uptoBulkEntries entries + 1
  | .held _ => 1
def uptoBulkAll {H : Type} : List (DataW H) → Nat
  | [] => 0
  | d :: r => uptoBulk d + uptoBulkAll r
def uptoBulkEntries {H : Type} : List (Lit × DataW H) → Nat
  | [] => 0
  | x :: r => uptoBulkEntry x + uptoBulkEntries r
def uptoBulkEntry {H : Type} : Lit × DataW H → Nat
  | (.string bytes, d) => bytes.length + uptoBulk d + 1
  | (_, d) => uptoBulk d + 1
 end
def uptoSmall : (H : Type) → List (DataW H) → Bool := fun _ ds => decide (uptoBulkAll ds ≤ 1048576)
def OpenSpec.upto (s : _root_.Go.ChangeSpec) : _root_.Go.OpenSpec := { _root_.Go.OpenSpec.ofChange s with cond := some uptoSmall }

/-- 'ontimelaw20.RegallocColors', WHERE WHAT IT READS IS OF BULK AT MOST 1048576: true; the input reads as it did. -/
def regallocColorsUptoRow : OpenClaim := { program := "ytefkkgldlijbbaa", sum := "44ec660150920f5ba7afba5802128f2a3fa458d45db726ae8579c09206acdbb4", func := "ontime/ontimelaw20.RegallocColors", spec := "regallocColors", apart := false, narrowed := true }
def RegallocColorsUptoSaid : Prop := regallocColorsUptoRow.holds Try.pinned (OpenSpec.upto regallocColorsSpec)

/-- 'ontimelaw20.RegallocProper', WHERE WHAT IT READS IS OF BULK AT MOST 1048576: true; the input reads as it did. -/
def regallocProperUptoRow : OpenClaim := { program := "ytefkkgldlijbbaa", sum := "44ec660150920f5ba7afba5802128f2a3fa458d45db726ae8579c09206acdbb4", func := "ontime/ontimelaw20.RegallocProper", spec := "regallocProper", apart := false, narrowed := true }
def RegallocProperUptoSaid : Prop := regallocProperUptoRow.holds Try.pinned (OpenSpec.upto regallocProperSpec)

/-- 'ontimelaw20.RegallocFew', WHERE WHAT IT READS IS OF BULK AT MOST 1048576: true; the input reads as it did. -/
def regallocFewUptoRow : OpenClaim := { program := "ytefkkgldlijbbaa", sum := "44ec660150920f5ba7afba5802128f2a3fa458d45db726ae8579c09206acdbb4", func := "ontime/ontimelaw20.RegallocFew", spec := "regallocFew", apart := false, narrowed := true }
def RegallocFewUptoSaid : Prop := regallocFewUptoRow.holds Try.pinned (OpenSpec.upto regallocFewSpec)

/-- 'ontimelaw20.RegallocLists', WHERE WHAT IT READS IS OF BULK AT MOST 1048576: true; the input reads as it did. -/
def regallocListsUptoRow : OpenClaim := { program := "ytefkkgldlijbbaa", sum := "44ec660150920f5ba7afba5802128f2a3fa458d45db726ae8579c09206acdbb4", func := "ontime/ontimelaw20.RegallocLists", spec := "regallocLists", apart := false, narrowed := true }
def RegallocListsUptoSaid : Prop := regallocListsUptoRow.holds Try.pinned (OpenSpec.upto regallocListsSpec)

end Rows
end Go.Proofs.Ytefkkgldlijbbaa
