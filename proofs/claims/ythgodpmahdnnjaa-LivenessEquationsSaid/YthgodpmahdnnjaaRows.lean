/-
  No cell of these rows narrows 'for every input' (looked for: loops, veiled, ifaces, maps, wideKeys, modest, calm, conditions, laid).
  DERIVED. THE GIVEN ROWS OF THIS SEAT. 5 by the template 'for every input the law returns true; each argument reads behind the call as it read before'; 0 by the template 'total and deterministic' (their statements: YthgodpmahdnnjaaTotals.lean).
  GIVEN WITH THE SEED: the statements are not yours to turn. If you find one false, say at which input.
  Laid BY PROGRAM, IN A SANDBOX (cutbox-rows.mjs): the forced cells as the released guide's own fill.sh prints them over the translation 0948fcd4351ef7dd… (all of the seat's roots in one cut). By AI agents, Wed Nov 11 2026. No macro, syntax, notation, axiom, sorry.
-/
import Derived.Test.YthgodpmahdnnjaaChecked
import GoSem.Claim
import GoSem.ClaimJoined
import GoSem.ClaimMapViews
import Derived.JoinedTies
import Derived.KernelRfl
namespace Go.Proofs.Ythgodpmahdnnjaa
/- THE CELL 'sum', in the pinned program and in every row, IS THE sha256 OF THE DUMP (.gsa) THAT YthgodpmahdnnjaaProg.lean LOADS. Nothing in Lean hashes anything: it is a label: what it is worth is what the hold of that sum in a sandbox is worth. -/
noncomputable def Try.pinned : Pinned := { name := "ythgodpmahdnnjaa", sum := "0948fcd4351ef7dd17655a91e183f4cb5dd679dc2712259a23ab079a12dad23f", checked := Try.checked }
namespace Rows
def none {H : Type} : Left H := { results := [], args := [] }

/-- 'ontimelaw19.LivenessSets': WHATEVER THE INPUT: true; the input reads as it did. -/
def livenessSetsSpec : ChangeSpec := { name := "livenessSets", fn := fun _ => fun
  | [d] => { results := [.lit (.bool true)], args := [d] }
  | _ => none }
def livenessSetsRow : OpenClaim := { program := "ythgodpmahdnnjaa", sum := "0948fcd4351ef7dd17655a91e183f4cb5dd679dc2712259a23ab079a12dad23f", func := "ontime/ontimelaw19.LivenessSets", spec := "livenessSets", unfollowed := true, recurses := true, apart := false }
def LivenessSetsSaid : Prop := livenessSetsRow.holds Try.pinned (OpenSpec.ofChange livenessSetsSpec)

/-- ITS FALSE NEIGHBOUR: 'it returns false'. Refute it at one input. -/
def livenessSetsWrong : ChangeSpec := { name := "livenessSets", fn := fun _ => fun
  | [d] => { results := [.lit (.bool false)], args := [d] }
  | _ => none }
def LivenessSetsWrongFalsely : Prop := livenessSetsRow.holds Try.pinned (OpenSpec.ofChange livenessSetsWrong)

/-- 'ontimelaw19.LivenessInterference': WHATEVER THE INPUT: true; the input reads as it did. -/
def livenessInterferenceSpec : ChangeSpec := { name := "livenessInterference", fn := fun _ => fun
  | [d] => { results := [.lit (.bool true)], args := [d] }
  | _ => none }
def livenessInterferenceRow : OpenClaim := { program := "ythgodpmahdnnjaa", sum := "0948fcd4351ef7dd17655a91e183f4cb5dd679dc2712259a23ab079a12dad23f", func := "ontime/ontimelaw19.LivenessInterference", spec := "livenessInterference", unfollowed := true, recurses := true, apart := false }
def LivenessInterferenceSaid : Prop := livenessInterferenceRow.holds Try.pinned (OpenSpec.ofChange livenessInterferenceSpec)

/-- ITS FALSE NEIGHBOUR: 'it returns false'. Refute it at one input. -/
def livenessInterferenceWrong : ChangeSpec := { name := "livenessInterference", fn := fun _ => fun
  | [d] => { results := [.lit (.bool false)], args := [d] }
  | _ => none }
def LivenessInterferenceWrongFalsely : Prop := livenessInterferenceRow.holds Try.pinned (OpenSpec.ofChange livenessInterferenceWrong)

/-- 'ontimelaw19.LivenessEquations': WHATEVER THE INPUT: true; the input reads as it did. -/
def livenessEquationsSpec : ChangeSpec := { name := "livenessEquations", fn := fun _ => fun
  | [d] => { results := [.lit (.bool true)], args := [d] }
  | _ => none }
def livenessEquationsRow : OpenClaim := { program := "ythgodpmahdnnjaa", sum := "0948fcd4351ef7dd17655a91e183f4cb5dd679dc2712259a23ab079a12dad23f", func := "ontime/ontimelaw19.LivenessEquations", spec := "livenessEquations", unfollowed := true, recurses := true, apart := false }
def LivenessEquationsSaid : Prop := livenessEquationsRow.holds Try.pinned (OpenSpec.ofChange livenessEquationsSpec)

/-- ITS FALSE NEIGHBOUR: 'it returns false'. Refute it at one input. -/
def livenessEquationsWrong : ChangeSpec := { name := "livenessEquations", fn := fun _ => fun
  | [d] => { results := [.lit (.bool false)], args := [d] }
  | _ => none }
def LivenessEquationsWrongFalsely : Prop := livenessEquationsRow.holds Try.pinned (OpenSpec.ofChange livenessEquationsWrong)

/-- 'ontimelaw19.LivenessBounds': WHATEVER THE INPUT: true; the input reads as it did. -/
def livenessBoundsSpec : ChangeSpec := { name := "livenessBounds", fn := fun _ => fun
  | [d1, d2] => { results := [.lit (.bool true)], args := [d1, d2] }
  | _ => none }
def livenessBoundsRow : OpenClaim := { program := "ythgodpmahdnnjaa", sum := "0948fcd4351ef7dd17655a91e183f4cb5dd679dc2712259a23ab079a12dad23f", func := "ontime/ontimelaw19.LivenessBounds", spec := "livenessBounds", unfollowed := true, recurses := true, apart := false }
def LivenessBoundsSaid : Prop := livenessBoundsRow.holds Try.pinned (OpenSpec.ofChange livenessBoundsSpec)

/-- ITS FALSE NEIGHBOUR: 'it returns false'. Refute it at one input. -/
def livenessBoundsWrong : ChangeSpec := { name := "livenessBounds", fn := fun _ => fun
  | [d1, d2] => { results := [.lit (.bool false)], args := [d1, d2] }
  | _ => none }
def LivenessBoundsWrongFalsely : Prop := livenessBoundsRow.holds Try.pinned (OpenSpec.ofChange livenessBoundsWrong)

/-- 'ontimelaw19.LivenessValues': WHATEVER THE INPUT: true; the input reads as it did. -/
def livenessValuesSpec : ChangeSpec := { name := "livenessValues", fn := fun _ => fun
  | [d] => { results := [.lit (.bool true)], args := [d] }
  | _ => none }
def livenessValuesRow : OpenClaim := { program := "ythgodpmahdnnjaa", sum := "0948fcd4351ef7dd17655a91e183f4cb5dd679dc2712259a23ab079a12dad23f", func := "ontime/ontimelaw19.LivenessValues", spec := "livenessValues", unfollowed := true, recurses := true, apart := false }
def LivenessValuesSaid : Prop := livenessValuesRow.holds Try.pinned (OpenSpec.ofChange livenessValuesSpec)

/-- ITS FALSE NEIGHBOUR: 'it returns false'. Refute it at one input. -/
def livenessValuesWrong : ChangeSpec := { name := "livenessValues", fn := fun _ => fun
  | [d] => { results := [.lit (.bool false)], args := [d] }
  | _ => none }
def LivenessValuesWrongFalsely : Prop := livenessValuesRow.holds Try.pinned (OpenSpec.ofChange livenessValuesWrong)

/- THE SECOND FORM. 'bulk': how many values and letters a reading holds, each counted each time it is reached (what is shared counts as often as it is met; a slice's spare places count too). A statement '..UptoSaid' is the law's where the arguments, and the package variables that the reading takes, are together of bulk at most 1048576: NARROWER than '..Said'. Prove '..Said' where nothing that the law and all that it calls make is longer than what came in: it says more and counts as full. Else prove '..UptoSaid'. A law counts once. -/
mutual
def uptoBulk {H : Type} : DataW H → Nat
  | .lit (.string bytes) => bytes.length + 1
  | .lit _ => 1
  | .nil => 1
  | .ptr d => uptoBulk d + 1
  | .slice elems spare => uptoBulkAll elems + uptoBulkAll spare + 1
  | .agg parts => uptoBulkAll parts + 1
  | .iface _ d => uptoBulk d + 1
  | .map entries => uptoBulkEntries entries + 1
  | .held _ => 1
def uptoBulkAll {H : Type} : List (DataW H) → Nat
  | [] => 0
  | d :: r => uptoBulk d + uptoBulkAll r
def uptoBulkEntries {H : Type} : List (Lit × DataW H) → Nat
  | [] => 0
  | x :: r => uptoBulkEntry x + uptoBulkEntries r
def uptoBulkEntry {H : Type} : Lit × DataW H → Nat
  | (.string bytes, d) => bytes.length + uptoBulk d + 1
  | (_, d) => uptoBulk d + 1
 end
def uptoSmall : (H : Type) → List (DataW H) → Bool := fun _ ds => decide (uptoBulkAll ds ≤ 1048576)
def OpenSpec.upto (s : _root_.Go.ChangeSpec) : _root_.Go.OpenSpec := { _root_.Go.OpenSpec.ofChange s with cond := some uptoSmall }

/-- 'ontimelaw19.LivenessSets', WHERE WHAT IT READS IS OF BULK AT MOST 1048576: true; the input reads as it did. -/
def livenessSetsUptoRow : OpenClaim := { program := "ythgodpmahdnnjaa", sum := "0948fcd4351ef7dd17655a91e183f4cb5dd679dc2712259a23ab079a12dad23f", func := "ontime/ontimelaw19.LivenessSets", spec := "livenessSets", unfollowed := true, recurses := true, apart := false, narrowed := true }
def LivenessSetsUptoSaid : Prop := livenessSetsUptoRow.holds Try.pinned (OpenSpec.upto livenessSetsSpec)

/-- 'ontimelaw19.LivenessInterference', WHERE WHAT IT READS IS OF BULK AT MOST 1048576: true; the input reads as it did. -/
def livenessInterferenceUptoRow : OpenClaim := { program := "ythgodpmahdnnjaa", sum := "0948fcd4351ef7dd17655a91e183f4cb5dd679dc2712259a23ab079a12dad23f", func := "ontime/ontimelaw19.LivenessInterference", spec := "livenessInterference", unfollowed := true, recurses := true, apart := false, narrowed := true }
def LivenessInterferenceUptoSaid : Prop := livenessInterferenceUptoRow.holds Try.pinned (OpenSpec.upto livenessInterferenceSpec)

/-- 'ontimelaw19.LivenessEquations', WHERE WHAT IT READS IS OF BULK AT MOST 1048576: true; the input reads as it did. -/
def livenessEquationsUptoRow : OpenClaim := { program := "ythgodpmahdnnjaa", sum := "0948fcd4351ef7dd17655a91e183f4cb5dd679dc2712259a23ab079a12dad23f", func := "ontime/ontimelaw19.LivenessEquations", spec := "livenessEquations", unfollowed := true, recurses := true, apart := false, narrowed := true }
def LivenessEquationsUptoSaid : Prop := livenessEquationsUptoRow.holds Try.pinned (OpenSpec.upto livenessEquationsSpec)

/-- 'ontimelaw19.LivenessBounds', WHERE WHAT IT READS IS OF BULK AT MOST 1048576: true; the input reads as it did. -/
def livenessBoundsUptoRow : OpenClaim := { program := "ythgodpmahdnnjaa", sum := "0948fcd4351ef7dd17655a91e183f4cb5dd679dc2712259a23ab079a12dad23f", func := "ontime/ontimelaw19.LivenessBounds", spec := "livenessBounds", unfollowed := true, recurses := true, apart := false, narrowed := true }
def LivenessBoundsUptoSaid : Prop := livenessBoundsUptoRow.holds Try.pinned (OpenSpec.upto livenessBoundsSpec)

/-- 'ontimelaw19.LivenessValues', WHERE WHAT IT READS IS OF BULK AT MOST 1048576: true; the input reads as it did. -/
def livenessValuesUptoRow : OpenClaim := { program := "ythgodpmahdnnjaa", sum := "0948fcd4351ef7dd17655a91e183f4cb5dd679dc2712259a23ab079a12dad23f", func := "ontime/ontimelaw19.LivenessValues", spec := "livenessValues", unfollowed := true, recurses := true, apart := false, narrowed := true }
def LivenessValuesUptoSaid : Prop := livenessValuesUptoRow.holds Try.pinned (OpenSpec.upto livenessValuesSpec)

end Rows
end Go.Proofs.Ythgodpmahdnnjaa
