/- slices.Reverse at whole numbers: a row of the call's caller is turned in place. -/
import Derived.Test.YtefkkgldlijbbaaRemove
namespace Go.Proofs.Ytefkkgldlijbbaa
open Go.RowKit Go.Maps Go.Proofs.YtefkkgldlijbbaaW.PrintWords

theorem grownBy_drew {w w' : World} {row : Option Nat} (h : w.grownBy w' row) : w.grownBy w'.drew row := ⟨h.os, h.tape, h.output, h.size, h.block⟩

/-- The row when k pairs have been exchanged. -/
def revK (n k : Nat) (xs : List Int) : List Int := (List.range n).map fun i => if i < k ∨ n ≤ i + k then xs.getD (n - 1 - i) 0 else xs.getD i 0
theorem revK_len (n k : Nat) (xs : List Int) : (revK n k xs).length = n := by simp [revK]
theorem revK_get {n k i : Nat} {xs : List Int} (h : i < n) : (revK n k xs)[i]? = some (if i < k ∨ n ≤ i + k then xs.getD (n - 1 - i) 0 else xs.getD i 0) := by simp [revK, h]
theorem revK_zero {n : Nat} {xs : List Int} (h : xs.length = n) : revK n 0 xs = xs := by
  apply List.ext_getElem?
  intro i
  by_cases hi : i < n
  · rw [revK_get hi, if_neg (by omega), List.getElem?_eq_getElem (by omega), List.getD_eq_getElem?_getD, List.getElem?_eq_getElem (by omega)]; rfl
  · rw [List.getElem?_eq_none (by rw [revK_len]; omega), List.getElem?_eq_none (by omega)]
theorem revK_done {n k : Nat} {xs : List Int} (h : xs.length = n) (hk : n ≤ k + 1 + k) : revK n k xs = xs.reverse := by
  apply List.ext_getElem?
  intro i
  by_cases hi : i < n
  · rw [revK_get hi, List.getElem?_reverse (by omega), h, List.getElem?_eq_getElem (by omega), List.getD_eq_getElem?_getD, List.getD_eq_getElem?_getD, List.getElem?_eq_getElem (by omega), List.getElem?_eq_getElem (by omega)]
    by_cases h1 : i < k ∨ n ≤ i + k
    · rw [if_pos h1]; rfl
    · rw [if_neg h1]
      have : n - 1 - i = i := by omega
      simp [this]
  · rw [List.getElem?_eq_none (by rw [revK_len]; omega), List.getElem?_eq_none (by simp; omega)]
theorem revK_step {n k : Nat} {xs : List Int} (hk : k + k + 1 < n) : ((revK n k xs).set k (xs.getD (n - 1 - k) 0)).set (n - 1 - k) (xs.getD k 0) = revK n (k + 1) xs := by
  apply List.ext_getElem?
  intro i
  by_cases hi : i < n
  · rw [revK_get hi, List.getElem?_set, List.getElem?_set, revK_get hi]
    simp only [List.length_set, revK_len]
    by_cases h1 : n - 1 - k = i
    · rw [if_pos h1, if_pos (by omega), if_pos (by omega)]
      have : n - 1 - i = k := by omega
      rw [this]
    · rw [if_neg h1]
      by_cases h2 : k = i
      · subst h2
        rw [if_pos rfl, if_pos hi, if_pos (by omega)]
      · rw [if_neg h2]
        by_cases h3 : i < k ∨ n ≤ i + k
        · rw [if_pos h3, if_pos (by omega)]
        · rw [if_neg h3, if_neg (by omega)]
  · rw [List.getElem?_eq_none (by simp [revK_len]; omega), List.getElem?_eq_none (by rw [revK_len]; omega)]

set_option maxHeartbeats 2000000 in
set_option maxRecDepth 100000 in
theorem reverse_calls (base n : Nat) (v : Value) (xs : List Int) (w : World) (ho : w.ownsRow base 3 1 v n (nums .i64 xs)) (hx : xs.length = n) (hn : n ≤ 1000000) :
    Calls Try.prog 15 #[v] w fun e w' => e = .returned (.tuple #[]) ∧ w'.ownsRow base 3 1 v n (nums .i64 xs.reverse) ∧ w.grownBy w' v.ownBlock := by
  have HX := Lib.hid hx
  clear hx
  by_cases h2 : n < 2
  · obtain ⟨A, c, rfl⟩ := own_slice ho
    have hr : xs.reverse = xs := by
      have := HX.out
      match xs, this with
      | [], _ => rfl
      | [a], _ => rfl
      | a :: b :: l, h => simp at h; omega
    rw [hr]
    have HO := Lib.hid ho
    clear ho hr
    have b0 : decide ((0 : Int) < (n : Int) - 1) = false := decide_eq_false (by omega)
    go_enter Try.func15, Try.ntmps15
    go_wp2
    refine wp_loop_rounds 1 ?_
    rw [rounds_succ]
    go_wp2
    go_end0
    exact ⟨rfl, HO.out, World.grownBy.refl w _⟩
  · obtain ⟨g, cap, rfl, hg, _⟩ := ho.form (by omega)
    have ho0 : w.ownsRow base 3 1 (.slice (some ⟨g, 0, none⟩) n cap) n (nums .i64 (revK n 0 xs)) := by rw [revK_zero HX.out]; exact ho
    have HO := Lib.hid ho0
    clear ho ho0
    go_enter Try.func15, Try.ntmps15
    go_wp2
    go_loopw [2, 3] (fun i j wr => ∃ k : Nat, k + k ≤ n ∧ i = .int .i64 k ∧ j = .int .i64 ((n : Int) - 1 - k) ∧ wr.ownsRow base 3 1 (.slice (some ⟨g, 0, none⟩) n cap) n (nums .i64 (revK n k xs)) ∧ w.grownBy wr (some g)) (fun i _ _ => n - (intOf i).toNat)
    case atStart => exact ⟨0, by omega, rfl, by simp, HO.out, World.grownBy.refl w _⟩
    case round =>
      clear HO
      obtain ⟨k, hk, rfl, rfl, ho, hgr⟩ := hrel
      by_cases hlt : k + k + 1 < n
      · obtain ⟨hc1, hf1⟩ := own_at ho (k : Int) (by omega) (by omega)
        obtain ⟨hc2, hf2⟩ := own_at ho ((n : Int) - 1 - k) (by omega) (by omega)
        have e2 : ((n : Int) - 1 - k).toNat = n - 1 - k := by omega
        rw [Int.toNat_natCast] at hc1 hf1
        rw [e2] at hc2 hf2
        have v1 : rd (revK n k xs) (k : Int) = xs.getD k 0 := by
          unfold rd
          rw [Int.toNat_natCast, List.getD_eq_getElem?_getD, revK_get (by omega), if_neg (by omega)]; rfl
        have v2 : rd (revK n k xs) ((n : Int) - 1 - k) = xs.getD (n - 1 - k) 0 := by
          unfold rd
          rw [e2, List.getD_eq_getElem?_getD, revK_get (by omega), if_neg (by omega)]; rfl
        rw [v1] at hc1
        rw [v2] at hc2
        obtain ⟨a, ha⟩ : ∃ a, a = xs.getD k 0 := ⟨_, rfl⟩
        obtain ⟨b, hb⟩ : ∃ b, b = xs.getD (n - 1 - k) 0 := ⟨_, rfl⟩
        rw [← ha] at hc1
        rw [← hb] at hc2
        have R : ∀ W, W = ((wr.setCell ⟨g, k, none⟩ (.int .i64 b)).setCell ⟨g, n - 1 - k, none⟩ (.int .i64 a)).drew → W.ownsRow base 3 1 (.slice (some ⟨g, 0, none⟩) n cap) n (nums .i64 (revK n (k + 1) xs)) ∧ w.grownBy W (some g) := by
          rintro W rfl
          obtain ⟨o1, g1⟩ := own_store ho (k : Int) b
          obtain ⟨o2, g2⟩ := own_store o1 ((n : Int) - 1 - k) a
          rw [e2] at o2 g2
          rw [Int.toNat_natCast] at o2 g2 g1
          rw [ha, hb] at o2
          rw [revK_step (by omega)] at o2
          rw [ha, hb]
          rw [ha, hb] at g2
          rw [hb] at g1
          exact ⟨o2.drew, grownBy_drew ((hgr.trans g1).trans g2)⟩
        have HR := Lib.hid R
        clear R ho hgr v1 v2 ha hb
        have b1 : decide ((k : Int) < (n : Int) - 1 - k) = true := decide_eq_true (by omega)
        go_wp2
        go_region
        go_wp2
        go_roundw
        case rel => exact ⟨k + 1, by omega, by go_num, by go_num, HR.out _ (by rfl)⟩
        case measure => simp [intOf]; omega
      · have b1 : decide ((k : Int) < (n : Int) - 1 - k) = false := decide_eq_false (by omega)
        have hf : wr.ownsRow base 3 1 (.slice (some ⟨g, 0, none⟩) n cap) n (nums .i64 xs.reverse) := by rw [← revK_done HX.out (k := k) (by omega)]; exact ho
        have HO := Lib.hid hf
        clear hf ho
        go_wp2
        go_end0
        exact ⟨rfl, HO.out, hgr⟩

end Go.Proofs.Ytefkkgldlijbbaa
