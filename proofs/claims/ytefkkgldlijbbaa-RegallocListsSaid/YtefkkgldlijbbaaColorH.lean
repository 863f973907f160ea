/- regalloc.Color, told as a function of lists, in the form that its callers' walks take. -/
import Derived.Test.YtefkkgldlijbbaaColorX
namespace Go.Proofs.Ytefkkgldlijbbaa
open Go.RowKit Go.Maps Go.Proofs.YtefkkgldlijbbaaW.PrintWords

/-- Color, where the graph is small enough. -/
def regalloc_Color.f (l0 : List (List Int)) (a1 : Int) : Option (List Int) :=
  if l0.length ≤ 1000 ∧ (∀ l ∈ l0, l.length ≤ 1500) ∧ a1 ≤ 9223372036854775807 then some (colorE l0 a1) else none

theorem regalloc_Color.calls (A0 : Option Addr) (c0 : Nat) (l0 : List (List Int)) (a1 : Int) (r : List Int) (w : World) (hr0 : Kd.C (Kd.slice 3 (Kd.int .i64)) w A0 l0.length l0) (hc0 : l0.length ≤ c0) (h : regalloc_Color.f l0 a1 = some r) :
    Calls Try.prog 10 #[.slice A0 l0.length c0, .int .i64 a1] w fun e w' => ∃ v0_ : Value, e = .returned (v0_) ∧ Kd.R (Kd.int .i64) 3 w' w.heap.size (fun _ => True) v0_ r ∧ Below w.heap.size w w' := by
  unfold regalloc_Color.f at h
  split at h
  · rename_i hc
    injection h with h
    subst h
    exact color_calls A0 c0 l0 a1 w hr0 hc0 hc.1 hc.2.1 hc.2.2
  · cases h

end Go.Proofs.Ytefkkgldlijbbaa
