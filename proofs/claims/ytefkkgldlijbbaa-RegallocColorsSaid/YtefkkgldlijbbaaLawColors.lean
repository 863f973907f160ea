/- The law RegallocColors, walked: the plain law of its printed function is all that is wanted. -/
import Derived.Test.YtefkkgldlijbbaaOpen
import Derived.Test.YtefkkgldlijbbaaHx4
import Derived.Test.YtefkkgldlijbbaaPureA
namespace Go.Proofs.Ytefkkgldlijbbaa
open Go.RowKit Go.Proofs.YtefkkgldlijbbaaW.PrintWords Go.Proofs.Ytefkkgldlijbbaa.Open Go.Proofs.Ytefkkgldlijbbaa.H

theorem opens_rows : Opens Try.prog 22 (Kd.slice 26 (Kd.slice 3 (Kd.int .i64))) (fun xs => ∀ x ∈ xs, ∀ y ∈ x, (Lit.int .i64 y).wf = true) :=
  opens_slice Try.underlying22 (by kernel_rfl) (opens_slice Try.underlying26 (by kernel_rfl) (opens_int Try.underlying3))

theorem pureColors : ∀ (l0 : List (List Int)) (a1 : Int), (Lit.int .i64 a1).wf = true → ∃ k, ontimelaw20_RegallocColors.f k l0 a1 = some true := by
  intro E a1 hw
  have hb := wfI_bounds hw
  refine ⟨7001, ?_⟩
  unfold ontimelaw20_RegallocColors.f
  rw [awake_f _ (by omega)]
  simp only [Option.bind_some, if_true]
  obtain ⟨b, h1, h2⟩ := wide_f E 7001 (by omega)
  rw [h1]
  simp only [Option.bind_some]
  cases b with
  | true => rfl
  | false =>
    have hE := h2 rfl
    rw [if_neg (by simp)]
    simp only [ontimelaw20_RegallocColors.j0]
    by_cases h : a1 > 30
    · rw [if_pos (by simpa using h)]
    · rw [if_neg (by simpa using h), color_h E a1 (by have := hE.n; omega) (fun l hl => by have := hE.l l hl; omega) hb.2, Color_f hE a1 (by omega) _ (by omega)]
      simp only [Option.bind_some]
      rw [ints_f _ (by unfold colorE; rw [ColorLaw.color_len]; have := hE.n; omega) _ (by unfold colorE; rw [ColorLaw.color_len]; have := hE.n; omega)]
      rfl

theorem walkColors (A : Option Addr) (c : Nat) (xs : List (List Int)) (a1 : Int) (w : World) (hC : Kd.C (Kd.slice 3 (Kd.int .i64)) w A xs.length xs) (hl : xs.length ≤ c) (_hI : ∀ x ∈ xs, ∀ y ∈ x, (Lit.int .i64 y).wf = true) (hw : (Lit.int .i64 a1).wf = true) :
    Calls Try.prog 3 #[.slice A xs.length c, .int .i64 a1] w fun e w' => e = .returned (.bool true) ∧ Below w.heap.size w w' := by
  obtain ⟨k, h⟩ := pureColors xs a1 hw
  refine (ontimelaw20_RegallocColors.calls k A c xs a1 true w hC hl h).mono ?_
  rintro e w' ⟨rfl, hd⟩
  exact ⟨rfl, hd⟩

end Go.Proofs.Ytefkkgldlijbbaa
