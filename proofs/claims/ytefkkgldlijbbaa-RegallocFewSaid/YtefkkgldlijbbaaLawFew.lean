/- The law RegallocFew, walked, and its plain law: where every node has fewer neighbours than there are colours, every node gets one. -/
import Derived.Test.YtefkkgldlijbbaaOpen
import Derived.Test.YtefkkgldlijbbaaHx4
import Derived.Test.YtefkkgldlijbbaaPureA
namespace Go.Proofs.Ytefkkgldlijbbaa
open Go.RowKit Go.Proofs.YtefkkgldlijbbaaW.PrintWords Go.Proofs.YtefkkgldlijbbaaW.PrintMore Go.Proofs.Ytefkkgldlijbbaa.Open Go.Proofs.Ytefkkgldlijbbaa.H

def nbrs (E : List (List Int)) (a : Nat) : Nat := (List.range E.length).countP (fun b => adjE E a b)
/-- The most neighbours of the first i nodes. -/
def mostN (E : List (List Int)) : Nat → Nat
  | 0 => 0
  | i + 1 => max (mostN E i) (nbrs E i)
theorem nbrs_le (E : List (List Int)) (a : Nat) : nbrs E a ≤ E.length := by
  have := List.countP_le_length (p := fun b => adjE E a b) (l := List.range E.length)
  rw [List.length_range] at this
  exact this
theorem mostN_le (E : List (List Int)) : ∀ i, mostN E i ≤ E.length
  | 0 => Nat.zero_le _
  | i + 1 => by have := mostN_le E i; have := nbrs_le E i; unfold mostN; omega
theorem mostN_ge (E : List (List Int)) : ∀ i a, a < i → nbrs E a ≤ mostN E i
  | 0, a, h => by omega
  | i + 1, a, h => by
    unfold mostN
    by_cases e : a = i
    · subst e; omega
    · have := mostN_ge E i a (by omega); omega

theorem few_l1 {E : List (List Int)} (hE : Small E) (most a : Nat) (ha : a < E.length) (_hm : most ≤ 100) (r : Bool) (K : Nat) (hK : 100 ≤ K) (hend : ∀ k, K ≤ k → ontimelaw20_RegallocFew.l0 k E ((max most (nbrs E a) : Nat) : Int) (E.length : Int) ((a + 1 : Nat) : Int) = some r) :
    ∀ (d b k m : Nat), b + d = E.length → m ≤ b → m + (((List.range E.length).drop b).countP (fun b => adjE E a b)) = nbrs E a → K + d < k → ontimelaw20_RegallocFew.l1 k E (most : Int) (a : Int) (m : Int) (E.length : Int) (a : Int) (E.length : Int) (b : Int) = some r := by
  have hn := hE.n
  intro d
  induction d with
  | zero =>
    intro b k m hb hmb hc hk
    obtain ⟨k, rfl, _⟩ := k_succ (show 0 < k by omega)
    simp only [ontimelaw20_RegallocFew.l1]
    rw [if_neg (by omega), wr1 (by omega)]
    rw [List.drop_of_length_le (by simp; omega)] at hc
    have e : mx (most : Int) (m : Int) = ((max most (nbrs E a) : Nat) : Int) := by
      unfold mx
      simp at hc
      split <;> omega
    rw [e]
    exact hend _ (by omega)
  | succ d ih =>
    intro b k m hb hmb hc hk
    obtain ⟨k, rfl, _⟩ := k_succ (show 0 < k by omega)
    simp only [ontimelaw20_RegallocFew.l1]
    rw [range_drop (show b < E.length by omega), List.countP_cons] at hc
    rw [if_pos (by omega), adjacent_f hE a b k ha (by omega) (by omega), wr1 (by omega), wr1 (by omega)]
    simp only [Option.bind_some]
    by_cases h : adjE E a b = true
    · rw [if_pos h]
      rw [if_pos h] at hc
      exact ih (b + 1) k (m + 1) (by omega) (by omega) (by omega) (by omega)
    · rw [if_neg h]
      rw [if_neg h] at hc
      exact ih (b + 1) k m (by omega) (by omega) (by omega) (by omega)

theorem few_l2 {E : List (List Int)} (hE : Small E) (M : Nat) (hM : M ≤ 100) (hlo : ∀ a, a < E.length → 0 ≤ (colorE E ((M + 1 : Nat) : Int)).getD a (-1)) (hhi : ∀ a, (colorE E ((M + 1 : Nat) : Int)).getD a (-1) < ((M + 1 : Nat) : Int)) :
    ∀ (d i k : Nat), i + d = E.length → d < k → ontimelaw20_RegallocFew.l2 k E (M : Int) (colorE E ((M + 1 : Nat) : Int)) (E.length : Int) (i : Int) = some true := by
  have hn := hE.n
  have hlen : (colorE E ((M + 1 : Nat) : Int)).length = E.length := by unfold colorE; rw [ColorLaw.color_len]
  intro d
  induction d with
  | zero =>
    intro i k hi hk
    obtain ⟨k, rfl, _⟩ := k_succ (show 0 < k by omega)
    simp only [ontimelaw20_RegallocFew.l2]
    rw [if_neg (by omega), wr1 (by omega), color_h E _ (by omega) (fun l hl => by have := hE.l l hl; omega) (by omega)]
    simp only [Option.bind_some]
    rw [hlen]; simp
  | succ d ih =>
    intro i k hi hk
    obtain ⟨k, rfl, _⟩ := k_succ (show 0 < k by omega)
    simp only [ontimelaw20_RegallocFew.l2]
    have h1 := hlo i (by omega)
    have h2 := hhi i
    have e : (colorE E ((M + 1 : Nat) : Int)).getD i 0 = (colorE E ((M + 1 : Nat) : Int)).getD i (-1) := by
      rw [List.getD_eq_getElem?_getD, List.getD_eq_getElem?_getD, List.getElem?_eq_getElem (by omega)]; rfl
    rw [if_pos (by omega), if_pos (by omega), if_pos (by omega), rd_nat, e, if_neg (by omega), if_neg (by omega), wr1 (by omega)]
    exact ih (i + 1) k (by omega) (by omega)

theorem few_l0 {E : List (List Int)} (hE : Small E) : ∀ (d i k : Nat), i + d = E.length → 200 + 50 * d ≤ k → ontimelaw20_RegallocFew.l0 k E (mostN E i : Int) (E.length : Int) (i : Int) = some true := by
  have hn := hE.n
  intro d
  induction d with
  | zero =>
    intro i k hi hk
    obtain ⟨k, rfl, _⟩ := k_succ (show 0 < k by omega)
    simp only [ontimelaw20_RegallocFew.l0]
    have e : i = E.length := by omega
    subst e
    have hM := mostN_le E E.length
    have hlen : (colorE E ((mostN E E.length + 1 : Nat) : Int)).length = E.length := by unfold colorE; rw [ColorLaw.color_len]
    rw [if_neg (by omega), wr1 (by omega), color_h E _ (by omega) (fun l hl => by have := hE.l l hl; omega) (by omega)]
    simp only [Option.bind_some]
    rw [hlen]
    have hcol : colorE E ((mostN E E.length + 1 : Nat) : Int) = ColorLaw.color E.length (adjE E) (mostN E E.length + 1) := by unfold colorE; rw [Int.toNat_natCast]
    have G := ColorLaw.color_good (c := mostN E E.length + 1) (n := E.length) (A := adjE E) (fun a b _ _ => adjE_symm E a b) (adjE_irr E)
    refine few_l2 hE _ (by omega) (fun a ha => ?_) (fun a => ?_) E.length 0 k (by omega) (by omega)
    · rw [hcol]
      refine ColorLaw.color_few (fun a b _ _ => adjE_symm E a b) (adjE_irr E) a ha ?_
      have := mostN_ge E E.length a ha
      unfold nbrs at this
      omega
    · rw [hcol]; exact (G.lo a).2
  | succ d ih =>
    intro i k hi hk
    obtain ⟨k, rfl, _⟩ := k_succ (show 0 < k by omega)
    simp only [ontimelaw20_RegallocFew.l0]
    have hM := mostN_le E i
    rw [if_pos (by omega)]
    have h := few_l1 hE (mostN E i) i (by omega) (by omega) true (200 + 50 * d) (by omega) (fun k' hk' => by
      have := ih (i + 1) k' (by omega) hk'
      exact this) E.length 0 k 0 (by omega) (by omega) (by unfold nbrs; simp) (by omega)
    exact h

theorem pureFew : ∀ (l0 : List (List Int)), ∃ k, ontimelaw20_RegallocFew.f k l0 = some true := by
  intro E
  refine ⟨2000, ?_⟩
  unfold ontimelaw20_RegallocFew.f
  rw [awake_f _ (by omega)]
  simp only [Option.bind_some, if_true]
  obtain ⟨b, h1, h2⟩ := wide_f E 2000 (by omega)
  rw [h1]
  simp only [Option.bind_some]
  cases b with
  | true => rfl
  | false =>
    have hE := h2 rfl
    have hn := hE.n
    rw [if_neg (by simp)]
    exact few_l0 hE E.length 0 2000 (by omega) (by omega)

theorem opens_rows2 : Opens Try.prog 22 (Kd.slice 26 (Kd.slice 3 (Kd.int .i64))) (fun xs => ∀ x ∈ xs, ∀ y ∈ x, (Lit.int .i64 y).wf = true) :=
  opens_slice Try.underlying22 (by kernel_rfl) (opens_slice Try.underlying26 (by kernel_rfl) (opens_int Try.underlying3))

theorem walkFew (A : Option Addr) (c : Nat) (xs : List (List Int)) (w : World) (hC : Kd.C (Kd.slice 3 (Kd.int .i64)) w A xs.length xs) (hl : xs.length ≤ c) (_hI : ∀ x ∈ xs, ∀ y ∈ x, (Lit.int .i64 y).wf = true) :
    Calls Try.prog 5 #[.slice A xs.length c] w fun e w' => e = .returned (.bool true) ∧ Below w.heap.size w w' := by
  obtain ⟨k, h⟩ := pureFew xs
  refine (ontimelaw20_RegallocFew.calls k A c xs true w hC hl h).mono ?_
  rintro e w' ⟨rfl, hd⟩
  exact ⟨rfl, hd⟩

end Go.Proofs.Ytefkkgldlijbbaa
