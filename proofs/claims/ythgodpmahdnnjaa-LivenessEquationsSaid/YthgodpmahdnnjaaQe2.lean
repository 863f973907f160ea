/- Texts of this claim, joined by a program (part 2); what nothing uses is left out. -/
import Derived.Test.YthgodpmahdnnjaaQe1
set_option linter.unusedVariables false
set_option linter.unusedSimpArgs false
section
namespace Go.Proofs.Ythgodpmahdnnjaa.H
open Go.RowKit Go.Proofs.YthgodpmahdnnjaaW.PrintWords Go.Proofs.YthgodpmahdnnjaaW.PrintLast Go.Proofs.YthgodpmahdnnjaaW.PrintMore
attribute [local go_sem] max2_int min2_int max_two min_two max_three min_three max_four min_four
set_option linter.unusedVariables false
set_option linter.unusedSimpArgs false
def ontimeref17_Uses.j0 : Nat → ByteArray → List Int → Bool → Int → Int → Int → Int → Int → ByteArray → Option (List Int)
  | 0, _, _, _, _, _, _, _, _, _ => none
  | k + 1, x3, x4, x14, x264000, x264001, x264002, x264003, x264004, x264005 => if x14 = true then (if x4.length < 17592186044416 then ((some (x4 ++ [x264002] : List Int)).bind fun y266 => ((ontimeref17_has.f k x3 121).bind fun t269 => (if t269 = true then (if y266.length < 17592186044416 then (some (y266 ++ [x264003])) else (none)) else (some y266)))) else (none)) else ((ontimeref17_has.f k x3 121).bind fun t273 => (if t273 = true then (if x4.length < 17592186044416 then (some (x4 ++ [x264003])) else (none)) else (some x4)))
def ontimeref17_Uses.f (k : Nat) (a0_0 : Int) (a0_1 : Int) (a0_2 : Int) (a0_3 : Int) (a0_4 : Int) (a0_5 : ByteArray) : Option (List Int) := (ontimeref17_Shape.f a0_0).bind fun t264 => ((ontimeref17_has.f k t264 120).bind fun t265 => (if t265 = true then (ontimeref17_Uses.j0 k t264 ([] : List Int) (a0_0 != 16) a0_0 a0_1 a0_2 a0_3 a0_4 a0_5) else (ontimeref17_Uses.j0 k t264 ([] : List Int) false a0_0 a0_1 a0_2 a0_3 a0_4 a0_5)))
theorem ontimeref17_Uses.mono_l : ∀ k, (∀ y0 y1 y2 y3 y4 y5 y6 y7 y8, LeO (ontimeref17_Uses.j0 k y0 y1 y2 y3 y4 y5 y6 y7 y8) (ontimeref17_Uses.j0 (k + 1) y0 y1 y2 y3 y4 y5 y6 y7 y8))
  | 0 => fun _ _ _ _ _ _ _ _ _ r h => by simp [ontimeref17_Uses.j0] at h
  | k + 1 => by
    have ih0 := ontimeref17_Uses.mono_l k
    · intro y0 y1 y2 y3 y4 y5 y6 y7 y8
      unfold ontimeref17_Uses.j0
      repeat' first
      | (with_reducible exact ih0 _ _ _ _ _ _ _ _ _)
      | (with_reducible exact ontimeref17_has.mono _ _ _)
      | (with_reducible exact LeO.refl _)
      | (with_reducible exact LeO.none _)
      | (with_reducible refine LeO.ite ?_ ?_)
      | (with_reducible refine LeO.bind ?_ (fun _ => ?_))
      | exact ih0 _ _ _ _ _ _ _ _ _
      | exact ontimeref17_has.mono _ _ _
      | exact LeO.none _
      | refine LeO.ite ?_ ?_
      | refine LeO.bind ?_ (fun _ => ?_)
theorem ontimeref17_Uses.mono : ∀ a0 a1 a2 a3 a4 a5 k, LeO (ontimeref17_Uses.f k a0 a1 a2 a3 a4 a5) (ontimeref17_Uses.f (k + 1) a0 a1 a2 a3 a4 a5) := by
  intro a0 a1 a2 a3 a4 a5 k
  have ih0 := ontimeref17_Uses.mono_l k
  unfold ontimeref17_Uses.f
  repeat' first
      | (with_reducible exact ih0 _ _ _ _ _ _ _ _ _)
      | (with_reducible exact ontimeref17_has.mono _ _ _)
      | (with_reducible exact LeO.refl _)
      | (with_reducible exact LeO.none _)
      | (with_reducible refine LeO.ite ?_ ?_)
      | (with_reducible refine LeO.bind ?_ (fun _ => ?_))
      | exact ih0 _ _ _ _ _ _ _ _ _
      | exact ontimeref17_has.mono _ _ _
      | exact LeO.none _
      | refine LeO.ite ?_ ?_
      | refine LeO.bind ?_ (fun _ => ?_)
set_option maxHeartbeats 8000000 in
set_option maxRecDepth 100000 in
theorem ontimeref17_Uses.calls (k : Nat) (a0_0 : Int) (a0_1 : Int) (a0_2 : Int) (a0_3 : Int) (a0_4 : Int) (a0_5 : ByteArray) (r : List Int) (w : World) (h : ontimeref17_Uses.f k a0_0 a0_1 a0_2 a0_3 a0_4 a0_5 = some r) :
    Calls Try.prog 65 #[.agg #[.int .u8 a0_0, .int .i64 a0_1, .int .i64 a0_2, .int .i64 a0_3, .int .i64 a0_4, .string a0_5]] w fun e w' => ∃ v0_ : Value, e = .returned (v0_) ∧ Kd.R (Kd.int .i64) 3 w' w.heap.size (fun _ => True) v0_ r ∧ Below w.heap.size w w' := by
  have hu80 := Try.underlying80
  have HB := Aside0.mk (Below.refl w.heap.size w)
  have H : ((ontimeref17_Shape.f a0_0).bind fun t264 => ((ontimeref17_has.f k t264 120).bind fun t265 => (if t265 = true then (ontimeref17_Uses.j0 k t264 ([] : List Int) (a0_0 != 16) a0_0 a0_1 a0_2 a0_3 a0_4 a0_5) else (ontimeref17_Uses.j0 k t264 ([] : List Int) false a0_0 a0_1 a0_2 a0_3 a0_4 a0_5)))) = some r := h
  clear h
  replace H := Option.bind_eq_some_iff.mp H
  obtain ⟨t264, A20, H⟩ := H
  replace H : ((ontimeref17_has.f k t264 120).bind fun t265 => (if t265 = true then (ontimeref17_Uses.j0 k t264 ([] : List Int) (a0_0 != 16) a0_0 a0_1 a0_2 a0_3 a0_4 a0_5) else (ontimeref17_Uses.j0 k t264 ([] : List Int) false a0_0 a0_1 a0_2 a0_3 a0_4 a0_5))) = some r := H
  have A2 := Aside0.mk A20
  clear A20
  have HC3 := Aside0.mk H
  clear H
  go_enter Try.func65, Try.ntmps65
  go_upto_region 3 with (first | ((with_reducible refine gate_dst (N := 1) rfl ?_); refine box_event ?hg (N := 1) ?hd (cs := #[.int .u8 a0_0, .int .i64 a0_1, .int .i64 a0_2, .int .i64 a0_3, .int .i64 a0_4, .string a0_5]) (t := 80) ?hr ?_; (case hd => rfl); (case hg => rfl); (case hr => first | (go_simp; done) | (go_simp; rfl)); intro gb263 hg w4 hbox hb; have n0_ := Aside0.mk (below_step (by repeat (first | (with_reducible first | exact HB.out | apply below_alloc | apply pw_below_drewN | apply below_drew1) | exact HB.out)) hb); have n1_ := Aside0.mk (hbox); have n2_ := Aside0.mk ((by rw [hg]; exact (below_size (by repeat (first | (with_reducible first | exact HB.out | apply below_alloc | apply pw_below_drewN | apply below_drew1) | exact HB.out))) : w.heap.size ≤ gb263)); have n3_ := Aside0.mk ((by rw [hg]; exact (below_size (by repeat (first | (with_reducible first | exact HB.out | apply below_alloc | apply pw_below_drewN | apply below_drew1) | exact HB.out))) : w.heap.size ≤ gb263)); clear HB; have HB := n0_; have BK263 := n1_; have GW263 := n2_; have GE263 := n3_; clear n0_ n1_ n2_ n3_; clear hb hbox hg; have hcz5_0 : w4.cell? ⟨gb263, 0, none⟩ = some (.int .u8 a0_0) := (blk_cell BK263.out 0).trans rfl; have hcz5_1 : w4.cell? ⟨gb263, 1, none⟩ = some (.int .i64 a0_1) := (blk_cell BK263.out 1).trans rfl; have hcz5_2 : w4.cell? ⟨gb263, 2, none⟩ = some (.int .i64 a0_2) := (blk_cell BK263.out 2).trans rfl; have hcz5_3 : w4.cell? ⟨gb263, 3, none⟩ = some (.int .i64 a0_3) := (blk_cell BK263.out 3).trans rfl; have hcz5_4 : w4.cell? ⟨gb263, 4, none⟩ = some (.int .i64 a0_4) := (blk_cell BK263.out 4).trans rfl; have hcz5_5 : w4.cell? ⟨gb263, 5, none⟩ = some (.string a0_5) := (blk_cell BK263.out 5).trans rfl; have hfz5_0 := blk_frozen BK263.out 0; have hfz5_1 := blk_frozen BK263.out 1; have hfz5_2 := blk_frozen BK263.out 2; have hfz5_3 := blk_frozen BK263.out 3; have hfz5_4 := blk_frozen BK263.out 4; have hfz5_5 := blk_frozen BK263.out 5) | ((with_reducible refine gate_callee (f := 73) rfl ?_); refine goesL_ (some 7) rfl rfl Try.func73 (by kernel_rfl) rfl #[.int .u8 a0_0] rfl (by (try simp only [List.map_toArray, List.map_cons, List.map_nil]); first | done | rfl | (simp only [List.length_drop, List.length_take]; rfl)) ?_; (with_reducible refine (ontimeref17_Shape.calls a0_0 t264 _ A2.out).mono ?_); rintro e w6 ⟨rfl, hb⟩; refine ⟨_, rfl, ?_⟩; have n0_ := Aside0.mk (blk_below (g := gb263) (o := .cells #[.int .u8 a0_0, .int .i64 a0_1, .int .i64 a0_2, .int .i64 a0_3, .int .i64 a0_4, .string a0_5] 80 (0, 0)) (by (with_reducible repeat (first | refine blk_drewN ?_ _ | refine blk_drew ?_ | refine blk_alloc ?_ _)); exact BK263.out) hb); have n1_ := Aside0.mk (below_step (by repeat (first | (with_reducible first | exact HB.out | apply below_alloc | apply pw_below_drewN | apply below_drew1 | refine below_set ?_ GE263.out) | exact HB.out)) hb); clear BK263; clear HB; have BK263 := n0_; have HB := n1_; clear n0_ n1_; (try clear hb); (try clear hb2); (try clear hk); (try clear hi)))
  (try simp only [Act.put, List.setIfInBounds_toArray, List.set_cons_zero, List.set_cons_succ])
  go_cut [14] (fun v14 wc => ∃ (kq : Nat) (x14_2 : Bool), v14 = .bool x14_2 ∧ Aside0 (ontimeref17_Uses.j0 kq t264 ([] : List Int) x14_2 a0_0 a0_1 a0_2 a0_3 a0_4 a0_5 = some r) ∧ Aside0 (kq ≤ k) ∧ Aside0 (Kd.R (Kd.int .i64) 3 wc w.heap.size (fun _ => True) (.slice none 0 0) ([] : List Int)) ∧ Aside0 (wc.heap[gb263]? = some (.cells #[.int .u8 a0_0, .int .i64 a0_1, .int .i64 a0_2, .int .i64 a0_3, .int .i64 a0_4, .string a0_5] 80 (0, 0))) ∧ Aside0 (Below w.heap.size w wc))
  case first =>
    have H := HC3.out
    clear HC3
    replace H := Option.bind_eq_some_iff.mp H
    obtain ⟨t265, A70, H⟩ := H
    replace H : (if t265 = true then (ontimeref17_Uses.j0 k t264 ([] : List Int) (a0_0 != 16) a0_0 a0_1 a0_2 a0_3 a0_4 a0_5) else (ontimeref17_Uses.j0 k t264 ([] : List Int) false a0_0 a0_1 a0_2 a0_3 a0_4 a0_5)) = some r := H
    have A7 := Aside0.mk A70
    clear A70
    by_cases c8 : t265 = true
    · subst c8
      have H1 : (ontimeref17_Uses.j0 k t264 ([] : List Int) (a0_0 != 16) a0_0 a0_1 a0_2 a0_3 a0_4 a0_5) = some r := by rw [if_pos rfl] at H; exact H
      clear H
      have H := H1
      clear H1
      have H' := Aside0.mk H
      clear H
      go_wp2_with (first | ((with_reducible refine gate_callee (f := 72) rfl ?_); refine goesL_ (some 9) rfl rfl Try.func72 (by kernel_rfl) rfl #[.string t264, .int .u8 120] rfl (by (try simp only [List.map_toArray, List.map_cons, List.map_nil]); first | done | rfl | (simp only [List.length_drop, List.length_take]; rfl)) ?_; (with_reducible refine (ontimeref17_has.calls k t264 120 true _ A7.out).mono ?_); rintro e w' ⟨rfl, ⟨nd, rfl⟩⟩; refine ⟨_, rfl, ?_⟩; have hcz9_0 : w6.cell? ⟨gb263, 0, none⟩ = some (.int .u8 a0_0) := (blk_cell BK263.out 0).trans rfl; have hcz9_1 : w6.cell? ⟨gb263, 1, none⟩ = some (.int .i64 a0_1) := (blk_cell BK263.out 1).trans rfl; have hcz9_2 : w6.cell? ⟨gb263, 2, none⟩ = some (.int .i64 a0_2) := (blk_cell BK263.out 2).trans rfl; have hcz9_3 : w6.cell? ⟨gb263, 3, none⟩ = some (.int .i64 a0_3) := (blk_cell BK263.out 3).trans rfl; have hcz9_4 : w6.cell? ⟨gb263, 4, none⟩ = some (.int .i64 a0_4) := (blk_cell BK263.out 4).trans rfl; have hcz9_5 : w6.cell? ⟨gb263, 5, none⟩ = some (.string a0_5) := (blk_cell BK263.out 5).trans rfl; have hfz9_0 := blk_frozen BK263.out 0; have hfz9_1 := blk_frozen BK263.out 1; have hfz9_2 := blk_frozen BK263.out 2; have hfz9_3 := blk_frozen BK263.out 3; have hfz9_4 := blk_frozen BK263.out 4; have hfz9_5 := blk_frozen BK263.out 5))
      go_meet
      case rel => exact ⟨_, ((a0_0 != 16)), (by first | rfl | (simp; done) | (simp [*]; done)), H', ⟨by first | omega | exact Nat.le_refl _⟩, ⟨by first | exact Kd.R_nil _ _ _ _ _ | exact Kd.N_nil _ _ _ _ _ | exact Kd.V_nil _ _ _ _ _ | exact Kd.Q_nil _ _ _ _ _ | exact Kd.S_nil _ _ _ _ _⟩, ⟨by (with_reducible repeat (first | refine blk_drewN ?_ _ | refine blk_drew ?_ | refine blk_alloc ?_ _)); exact BK263.out⟩, ⟨by repeat (first | (with_reducible first | exact HB.out | apply below_alloc | apply pw_below_drewN | apply below_drew1 | refine below_set ?_ GE263.out) | exact HB.out)⟩⟩
    · replace c8 := Bool.eq_false_iff.mpr c8
      subst c8
      have H1 : (ontimeref17_Uses.j0 k t264 ([] : List Int) false a0_0 a0_1 a0_2 a0_3 a0_4 a0_5) = some r := by rw [if_neg (show ¬ (false = true) by decide)] at H; exact H
      clear H
      have H := H1
      clear H1
      have H' := Aside0.mk H
      clear H
      go_wp2_with (first | ((with_reducible refine gate_callee (f := 72) rfl ?_); refine goesL_ (some 9) rfl rfl Try.func72 (by kernel_rfl) rfl #[.string t264, .int .u8 120] rfl (by (try simp only [List.map_toArray, List.map_cons, List.map_nil]); first | done | rfl | (simp only [List.length_drop, List.length_take]; rfl)) ?_; (with_reducible refine (ontimeref17_has.calls k t264 120 false _ A7.out).mono ?_); rintro e w' ⟨rfl, ⟨nd, rfl⟩⟩; refine ⟨_, rfl, ?_⟩))
      go_meet
      case rel => exact ⟨_, (false), (by first | rfl | (simp; done) | (simp [*]; done)), H', ⟨by first | omega | exact Nat.le_refl _⟩, ⟨by first | exact Kd.R_nil _ _ _ _ _ | exact Kd.N_nil _ _ _ _ _ | exact Kd.V_nil _ _ _ _ _ | exact Kd.Q_nil _ _ _ _ _ | exact Kd.S_nil _ _ _ _ _⟩, ⟨by (with_reducible repeat (first | refine blk_drewN ?_ _ | refine blk_drew ?_ | refine blk_alloc ?_ _)); exact BK263.out⟩, ⟨by repeat (first | (with_reducible first | exact HB.out | apply below_alloc | apply pw_below_drewN | apply below_drew1 | refine below_set ?_ GE263.out) | exact HB.out)⟩⟩
  case rest =>
    clear HC3
    try clear p2
    try clear c6
    try clear c7
    try clear c8
    try clear hcz5_0
    try clear hcz5_1
    try clear hcz5_2
    try clear hcz5_3
    try clear hcz5_4
    try clear hcz5_5
    try clear hcz9_0
    try clear hcz9_1
    try clear hcz9_2
    try clear hcz9_3
    try clear hcz9_4
    try clear hcz9_5
    try clear hfz5_0
    try clear hfz5_1
    try clear hfz5_2
    try clear hfz5_3
    try clear hfz5_4
    try clear hfz5_5
    try clear hfz9_0
    try clear hfz9_1
    try clear hfz9_2
    try clear hfz9_3
    try clear hfz9_4
    try clear hfz9_5
    obtain ⟨kq, x14_2, rfl, HA, HJ2, HO_4, BK263, HB⟩ := hcut
    cases kq with
    | zero => exact absurd HA.out (by simp [ontimeref17_Uses.j0])
    | succ kj2 =>
      have H := HA.out
      clear HA
      simp only [ontimeref17_Uses.j0] at H
      by_cases c10 : x14_2 = true
      · subst c10
        have H1 : (if ([] : List Int).length < 17592186044416 then ((some (([] : List Int) ++ [a0_2] : List Int)).bind fun y266 => ((ontimeref17_has.f kj2 t264 121).bind fun t269 => (if t269 = true then (if y266.length < 17592186044416 then (some (y266 ++ [a0_3])) else (none)) else (some y266)))) else (none)) = some r := by rw [if_pos rfl] at H; exact H
        clear H
        have H := H1
        clear H1
        by_cases c11 : ([] : List Int).length < 17592186044416
        · rw [if_pos c11] at H
          have LMc11 := Aside0.mk c11
          clear c11
          obtain ⟨y266, hy266⟩ : ∃ y_ : List Int, y_ = (([] : List Int) ++ [a0_2]) := ⟨_, rfl⟩
          replace H : ((ontimeref17_has.f kj2 t264 121).bind fun t269 => (if t269 = true then (if y266.length < 17592186044416 then (some (y266 ++ [a0_3])) else (none)) else (some y266))) = some r := by first | (rw [hy266]; with_reducible exact H) | (have H2_ := (Option.bind_some _ _).symm.trans H; rw [hy266]; with_reducible exact H2_) | (have H2_ := (Option.bind_some _ _).symm.trans H; with_reducible exact H2_) | with_reducible exact H | (rw [hy266]; exact H) | exact H
          have Ny266 := Aside0.mk hy266
          clear hy266
          replace H := Option.bind_eq_some_iff.mp H
          obtain ⟨t269, A120, H⟩ := H
          replace H : (if t269 = true then (if y266.length < 17592186044416 then (some (y266 ++ [a0_3])) else (none)) else (some y266)) = some r := H
          have A12 := Aside0.mk A120
          clear A120
          by_cases c13 : t269 = true
          · subst c13
            have H1 : (if y266.length < 17592186044416 then (some (y266 ++ [a0_3])) else (none)) = some r := by rw [if_pos rfl] at H; exact H
            clear H
            have H := H1
            clear H1
            by_cases c14 : y266.length < 17592186044416
            · rw [if_pos c14] at H
              have LMc14 := Aside0.mk c14
              clear c14
              obtain ⟨y270, hy270⟩ : ∃ y_ : List Int, y_ = (y266 ++ [a0_3]) := ⟨_, rfl⟩
              replace H : (some y270) = some r := by first | (rw [hy270]; with_reducible exact H) | (have H2_ := (Option.bind_some _ _).symm.trans H; rw [hy270]; with_reducible exact H2_) | (have H2_ := (Option.bind_some _ _).symm.trans H; with_reducible exact H2_) | with_reducible exact H | (rw [hy270]; exact H) | exact H
              have Ny270 := Aside0.mk hy270
              clear hy270
              obtain rfl := Option.some.inj H
              have hcz15_0 : wc.cell? ⟨gb263, 0, none⟩ = some (.int .u8 a0_0) := (blk_cell BK263.out 0).trans rfl
              have hcz15_1 : wc.cell? ⟨gb263, 1, none⟩ = some (.int .i64 a0_1) := (blk_cell BK263.out 1).trans rfl
              have hcz15_2 : wc.cell? ⟨gb263, 2, none⟩ = some (.int .i64 a0_2) := (blk_cell BK263.out 2).trans rfl
              have hcz15_3 : wc.cell? ⟨gb263, 3, none⟩ = some (.int .i64 a0_3) := (blk_cell BK263.out 3).trans rfl
              have hcz15_4 : wc.cell? ⟨gb263, 4, none⟩ = some (.int .i64 a0_4) := (blk_cell BK263.out 4).trans rfl
              have hcz15_5 : wc.cell? ⟨gb263, 5, none⟩ = some (.string a0_5) := (blk_cell BK263.out 5).trans rfl
              have hfz15_0 := blk_frozen BK263.out 0
              have hfz15_1 := blk_frozen BK263.out 1
              have hfz15_2 := blk_frozen BK263.out 2
              have hfz15_3 := blk_frozen BK263.out 3
              have hfz15_4 := blk_frozen BK263.out 4
              have hfz15_5 := blk_frozen BK263.out 5
              go_wp2_with (first | ((with_reducible refine gate_builtin (b := .append) (xs := #[.tmp 15, .tmp 18]) rfl ?_); at_builtin; refine Kd.R_append (Kd.int .i64) (w0 := w) w.heap.size rfl (.tmp 15) (.tmp 18) 39 3 (.int .i64 0) 8 rfl Try.underlying39 info3 rfl (by decide) (by omega) (.slice none 0 0) ([] : List Int) a0_2 [.int .i64 a0_2] (fun _ => True) (fun _ => False) rfl rfl ?aP (fun _ hk => hk.elim) ?aF ?aO ?aB ?aS ?aL ?_; (case aP => exact rfl); (case aB => exact (by repeat (first | (with_reducible first | exact HB.out | apply below_alloc | apply pw_below_drewN | apply below_drew1 | refine below_set ?_ GE263.out) | exact HB.out))); (case aF => exact (fun _ _ => trivial)); (case aO => exact (by (with_reducible repeat (first | apply Kd.R_alloc | apply Kd.R_drewN | apply Kd.R_drew)); exact HO_4.out)); (case aS => exact (below_size (by repeat (first | (with_reducible first | exact HB.out | apply below_alloc | apply pw_below_drewN | apply below_drew1 | refine below_set ?_ GE263.out) | exact HB.out)))); (case aL => have := LMc11.out; omega); intro v267 w16 ho hb hg hat; rw [← Ny266.out] at ho; have n0_ := Aside0.mk (blk_grown (g := gb263) (o := .cells #[.int .u8 a0_0, .int .i64 a0_1, .int .i64 a0_2, .int .i64 a0_3, .int .i64 a0_4, .string a0_5] 80 (0, 0)) (by (with_reducible repeat (first | refine blk_drewN ?_ _ | refine blk_drew ?_ | refine blk_alloc ?_ _)); exact BK263.out) hg (Kd.R_ne HO_4.out BK263.out (by decide))); have n1_ := Aside0.mk (hb); have n2_ := Aside0.mk (ho); clear BK263; clear HB; clear HO_4; have BK263 := n0_; have HB := n1_; have HO268 := n2_; clear n0_ n1_ n2_; clear ho hb hg hat) | ((with_reducible refine gate_callee (f := 72) rfl ?_); refine goesL_ (some 21) rfl rfl Try.func72 (by kernel_rfl) rfl #[.string t264, .int .u8 121] rfl (by (try simp only [List.map_toArray, List.map_cons, List.map_nil]); first | done | rfl | (simp only [List.length_drop, List.length_take]; rfl)) ?_; (with_reducible refine (ontimeref17_has.calls kj2 t264 121 true _ A12.out).mono ?_); rintro e w' ⟨rfl, ⟨nd, rfl⟩⟩; refine ⟨_, rfl, ?_⟩; have hcz17_0 : w16.cell? ⟨gb263, 0, none⟩ = some (.int .u8 a0_0) := (blk_cell BK263.out 0).trans rfl; have hcz17_1 : w16.cell? ⟨gb263, 1, none⟩ = some (.int .i64 a0_1) := (blk_cell BK263.out 1).trans rfl; have hcz17_2 : w16.cell? ⟨gb263, 2, none⟩ = some (.int .i64 a0_2) := (blk_cell BK263.out 2).trans rfl; have hcz17_3 : w16.cell? ⟨gb263, 3, none⟩ = some (.int .i64 a0_3) := (blk_cell BK263.out 3).trans rfl; have hcz17_4 : w16.cell? ⟨gb263, 4, none⟩ = some (.int .i64 a0_4) := (blk_cell BK263.out 4).trans rfl; have hcz17_5 : w16.cell? ⟨gb263, 5, none⟩ = some (.string a0_5) := (blk_cell BK263.out 5).trans rfl; have hfz17_0 := blk_frozen BK263.out 0; have hfz17_1 := blk_frozen BK263.out 1; have hfz17_2 := blk_frozen BK263.out 2; have hfz17_3 := blk_frozen BK263.out 3; have hfz17_4 := blk_frozen BK263.out 4; have hfz17_5 := blk_frozen BK263.out 5) | ((with_reducible refine gate_builtin (b := .append) (xs := #[.tmp 22, .tmp 25]) rfl ?_); at_builtin; refine Kd.R_append (Kd.int .i64) (w0 := w) w.heap.size rfl (.tmp 22) (.tmp 25) 39 3 (.int .i64 0) 8 rfl Try.underlying39 info3 rfl (by decide) (by omega) v267 y266 a0_3 [.int .i64 a0_3] (fun _ => True) (fun _ => False) rfl rfl ?aP (fun _ hk => hk.elim) ?aF ?aO ?aB ?aS ?aL ?_; (case aP => exact rfl); (case aB => exact (by repeat (first | (with_reducible first | exact HB.out | apply below_alloc | apply pw_below_drewN | apply below_drew1 | refine below_set ?_ GE263.out) | exact HB.out))); (case aF => exact (fun _ _ => trivial)); (case aO => exact (by (with_reducible repeat (first | apply Kd.R_alloc | apply Kd.R_drewN | apply Kd.R_drew)); exact HO268.out)); (case aS => exact (below_size (by repeat (first | (with_reducible first | exact HB.out | apply below_alloc | apply pw_below_drewN | apply below_drew1 | refine below_set ?_ GE263.out) | exact HB.out)))); (case aL => have := LMc14.out; omega); intro v271 w18 ho hb hg hat; rw [← Ny270.out] at ho; have n0_ := Aside0.mk (blk_grown (g := gb263) (o := .cells #[.int .u8 a0_0, .int .i64 a0_1, .int .i64 a0_2, .int .i64 a0_3, .int .i64 a0_4, .string a0_5] 80 (0, 0)) (by (with_reducible repeat (first | refine blk_drewN ?_ _ | refine blk_drew ?_ | refine blk_alloc ?_ _)); exact BK263.out) hg (Kd.R_ne HO268.out BK263.out (by decide))); have n1_ := Aside0.mk (hb); have n2_ := Aside0.mk (ho); clear BK263; clear HB; clear HO268; have BK263 := n0_; have HB := n1_; have HO272 := n2_; clear n0_ n1_ n2_; clear ho hb hg hat))
              go_ret
              exact ⟨_, by first | rfl | (simp [errW_none, errW_some] <;> rfl) | (simp [*, errW_none, errW_some] <;> rfl), by (with_reducible repeat (first | apply Kd.R_alloc | apply Kd.R_drewN | apply Kd.R_drew)); exact HO272.out, by repeat (first | (with_reducible first | exact HB.out | apply below_alloc | apply pw_below_drewN | apply below_drew1 | refine below_set ?_ GE263.out) | exact HB.out)⟩
            · rw [if_neg c14] at H
              exact absurd H (by simp)
          · replace c13 := Bool.eq_false_iff.mpr c13
            subst c13
            have H1 : (some y266) = some r := by rw [if_neg (show ¬ (false = true) by decide)] at H; exact H
            clear H
            have H := H1
            clear H1
            obtain rfl := Option.some.inj H
            have hcz19_0 : wc.cell? ⟨gb263, 0, none⟩ = some (.int .u8 a0_0) := (blk_cell BK263.out 0).trans rfl
            have hcz19_1 : wc.cell? ⟨gb263, 1, none⟩ = some (.int .i64 a0_1) := (blk_cell BK263.out 1).trans rfl
            have hcz19_2 : wc.cell? ⟨gb263, 2, none⟩ = some (.int .i64 a0_2) := (blk_cell BK263.out 2).trans rfl
            have hcz19_3 : wc.cell? ⟨gb263, 3, none⟩ = some (.int .i64 a0_3) := (blk_cell BK263.out 3).trans rfl
            have hcz19_4 : wc.cell? ⟨gb263, 4, none⟩ = some (.int .i64 a0_4) := (blk_cell BK263.out 4).trans rfl
            have hcz19_5 : wc.cell? ⟨gb263, 5, none⟩ = some (.string a0_5) := (blk_cell BK263.out 5).trans rfl
            have hfz19_0 := blk_frozen BK263.out 0
            have hfz19_1 := blk_frozen BK263.out 1
            have hfz19_2 := blk_frozen BK263.out 2
            have hfz19_3 := blk_frozen BK263.out 3
            have hfz19_4 := blk_frozen BK263.out 4
            have hfz19_5 := blk_frozen BK263.out 5
            go_wp2_with (first | ((with_reducible refine gate_builtin (b := .append) (xs := #[.tmp 15, .tmp 18]) rfl ?_); at_builtin; refine Kd.R_append (Kd.int .i64) (w0 := w) w.heap.size rfl (.tmp 15) (.tmp 18) 39 3 (.int .i64 0) 8 rfl Try.underlying39 info3 rfl (by decide) (by omega) (.slice none 0 0) ([] : List Int) a0_2 [.int .i64 a0_2] (fun _ => True) (fun _ => False) rfl rfl ?aP (fun _ hk => hk.elim) ?aF ?aO ?aB ?aS ?aL ?_; (case aP => exact rfl); (case aB => exact (by repeat (first | (with_reducible first | exact HB.out | apply below_alloc | apply pw_below_drewN | apply below_drew1 | refine below_set ?_ GE263.out) | exact HB.out))); (case aF => exact (fun _ _ => trivial)); (case aO => exact (by (with_reducible repeat (first | apply Kd.R_alloc | apply Kd.R_drewN | apply Kd.R_drew)); exact HO_4.out)); (case aS => exact (below_size (by repeat (first | (with_reducible first | exact HB.out | apply below_alloc | apply pw_below_drewN | apply below_drew1 | refine below_set ?_ GE263.out) | exact HB.out)))); (case aL => have := LMc11.out; omega); intro v267 w20 ho hb hg hat; rw [← Ny266.out] at ho; have n0_ := Aside0.mk (blk_grown (g := gb263) (o := .cells #[.int .u8 a0_0, .int .i64 a0_1, .int .i64 a0_2, .int .i64 a0_3, .int .i64 a0_4, .string a0_5] 80 (0, 0)) (by (with_reducible repeat (first | refine blk_drewN ?_ _ | refine blk_drew ?_ | refine blk_alloc ?_ _)); exact BK263.out) hg (Kd.R_ne HO_4.out BK263.out (by decide))); have n1_ := Aside0.mk (hb); have n2_ := Aside0.mk (ho); clear BK263; clear HB; clear HO_4; have BK263 := n0_; have HB := n1_; have HO268 := n2_; clear n0_ n1_ n2_; clear ho hb hg hat) | ((with_reducible refine gate_callee (f := 72) rfl ?_); refine goesL_ (some 21) rfl rfl Try.func72 (by kernel_rfl) rfl #[.string t264, .int .u8 121] rfl (by (try simp only [List.map_toArray, List.map_cons, List.map_nil]); first | done | rfl | (simp only [List.length_drop, List.length_take]; rfl)) ?_; (with_reducible refine (ontimeref17_has.calls kj2 t264 121 false _ A12.out).mono ?_); rintro e w' ⟨rfl, ⟨nd, rfl⟩⟩; refine ⟨_, rfl, ?_⟩))
            go_ret
            exact ⟨_, by first | rfl | (simp [errW_none, errW_some] <;> rfl) | (simp [*, errW_none, errW_some] <;> rfl), by (with_reducible repeat (first | apply Kd.R_alloc | apply Kd.R_drewN | apply Kd.R_drew)); exact HO268.out, by repeat (first | (with_reducible first | exact HB.out | apply below_alloc | apply pw_below_drewN | apply below_drew1 | refine below_set ?_ GE263.out) | exact HB.out)⟩
        · rw [if_neg c11] at H
          exact absurd H (by simp)
      · replace c10 := Bool.eq_false_iff.mpr c10
        subst c10
        have H1 : ((ontimeref17_has.f kj2 t264 121).bind fun t273 => (if t273 = true then (if ([] : List Int).length < 17592186044416 then (some (([] : List Int) ++ [a0_3])) else (none)) else (some ([] : List Int)))) = some r := by rw [if_neg (show ¬ (false = true) by decide)] at H; exact H
        clear H
        have H := H1
        clear H1
        replace H := Option.bind_eq_some_iff.mp H
        obtain ⟨t273, A210, H⟩ := H
        replace H : (if t273 = true then (if ([] : List Int).length < 17592186044416 then (some (([] : List Int) ++ [a0_3])) else (none)) else (some ([] : List Int))) = some r := H
        have A21 := Aside0.mk A210
        clear A210
        by_cases c22 : t273 = true
        · subst c22
          have H1 : (if ([] : List Int).length < 17592186044416 then (some (([] : List Int) ++ [a0_3])) else (none)) = some r := by rw [if_pos rfl] at H; exact H
          clear H
          have H := H1
          clear H1
          by_cases c23 : ([] : List Int).length < 17592186044416
          · rw [if_pos c23] at H
            have LMc23 := Aside0.mk c23
            clear c23
            obtain ⟨y274, hy274⟩ : ∃ y_ : List Int, y_ = (([] : List Int) ++ [a0_3]) := ⟨_, rfl⟩
            replace H : (some y274) = some r := by first | (rw [hy274]; with_reducible exact H) | (have H2_ := (Option.bind_some _ _).symm.trans H; rw [hy274]; with_reducible exact H2_) | (have H2_ := (Option.bind_some _ _).symm.trans H; with_reducible exact H2_) | with_reducible exact H | (rw [hy274]; exact H) | exact H
            have Ny274 := Aside0.mk hy274
            clear hy274
            obtain rfl := Option.some.inj H
            go_wp2_with (first | ((with_reducible refine gate_callee (f := 72) rfl ?_); refine goesL_ (some 21) rfl rfl Try.func72 (by kernel_rfl) rfl #[.string t264, .int .u8 121] rfl (by (try simp only [List.map_toArray, List.map_cons, List.map_nil]); first | done | rfl | (simp only [List.length_drop, List.length_take]; rfl)) ?_; (with_reducible refine (ontimeref17_has.calls kj2 t264 121 true _ A21.out).mono ?_); rintro e w' ⟨rfl, ⟨nd, rfl⟩⟩; refine ⟨_, rfl, ?_⟩; have hcz24_0 : wc.cell? ⟨gb263, 0, none⟩ = some (.int .u8 a0_0) := (blk_cell BK263.out 0).trans rfl; have hcz24_1 : wc.cell? ⟨gb263, 1, none⟩ = some (.int .i64 a0_1) := (blk_cell BK263.out 1).trans rfl; have hcz24_2 : wc.cell? ⟨gb263, 2, none⟩ = some (.int .i64 a0_2) := (blk_cell BK263.out 2).trans rfl; have hcz24_3 : wc.cell? ⟨gb263, 3, none⟩ = some (.int .i64 a0_3) := (blk_cell BK263.out 3).trans rfl; have hcz24_4 : wc.cell? ⟨gb263, 4, none⟩ = some (.int .i64 a0_4) := (blk_cell BK263.out 4).trans rfl; have hcz24_5 : wc.cell? ⟨gb263, 5, none⟩ = some (.string a0_5) := (blk_cell BK263.out 5).trans rfl; have hfz24_0 := blk_frozen BK263.out 0; have hfz24_1 := blk_frozen BK263.out 1; have hfz24_2 := blk_frozen BK263.out 2; have hfz24_3 := blk_frozen BK263.out 3; have hfz24_4 := blk_frozen BK263.out 4; have hfz24_5 := blk_frozen BK263.out 5) | ((with_reducible refine gate_builtin (b := .append) (xs := #[.tmp 22, .tmp 25]) rfl ?_); at_builtin; refine Kd.R_append (Kd.int .i64) (w0 := w) w.heap.size rfl (.tmp 22) (.tmp 25) 39 3 (.int .i64 0) 8 rfl Try.underlying39 info3 rfl (by decide) (by omega) (.slice none 0 0) ([] : List Int) a0_3 [.int .i64 a0_3] (fun _ => True) (fun _ => False) rfl rfl ?aP (fun _ hk => hk.elim) ?aF ?aO ?aB ?aS ?aL ?_; (case aP => exact rfl); (case aB => exact (by repeat (first | (with_reducible first | exact HB.out | apply below_alloc | apply pw_below_drewN | apply below_drew1 | refine below_set ?_ GE263.out) | exact HB.out))); (case aF => exact (fun _ _ => trivial)); (case aO => exact (by (with_reducible repeat (first | apply Kd.R_alloc | apply Kd.R_drewN | apply Kd.R_drew)); exact HO_4.out)); (case aS => exact (below_size (by repeat (first | (with_reducible first | exact HB.out | apply below_alloc | apply pw_below_drewN | apply below_drew1 | refine below_set ?_ GE263.out) | exact HB.out)))); (case aL => have := LMc23.out; omega); intro v275 w25 ho hb hg hat; rw [← Ny274.out] at ho; have n0_ := Aside0.mk (blk_grown (g := gb263) (o := .cells #[.int .u8 a0_0, .int .i64 a0_1, .int .i64 a0_2, .int .i64 a0_3, .int .i64 a0_4, .string a0_5] 80 (0, 0)) (by (with_reducible repeat (first | refine blk_drewN ?_ _ | refine blk_drew ?_ | refine blk_alloc ?_ _)); exact BK263.out) hg (Kd.R_ne HO_4.out BK263.out (by decide))); have n1_ := Aside0.mk (hb); have n2_ := Aside0.mk (ho); clear BK263; clear HB; clear HO_4; have BK263 := n0_; have HB := n1_; have HO276 := n2_; clear n0_ n1_ n2_; clear ho hb hg hat))
            go_ret
            exact ⟨_, by first | rfl | (simp [errW_none, errW_some] <;> rfl) | (simp [*, errW_none, errW_some] <;> rfl), by (with_reducible repeat (first | apply Kd.R_alloc | apply Kd.R_drewN | apply Kd.R_drew)); exact HO276.out, by repeat (first | (with_reducible first | exact HB.out | apply below_alloc | apply pw_below_drewN | apply below_drew1 | refine below_set ?_ GE263.out) | exact HB.out)⟩
          · rw [if_neg c23] at H
            exact absurd H (by simp)
        · replace c22 := Bool.eq_false_iff.mpr c22
          subst c22
          have H1 : (some ([] : List Int)) = some r := by rw [if_neg (show ¬ (false = true) by decide)] at H; exact H
          clear H
          have H := H1
          clear H1
          obtain rfl := Option.some.inj H
          go_wp2_with (first | ((with_reducible refine gate_callee (f := 72) rfl ?_); refine goesL_ (some 21) rfl rfl Try.func72 (by kernel_rfl) rfl #[.string t264, .int .u8 121] rfl (by (try simp only [List.map_toArray, List.map_cons, List.map_nil]); first | done | rfl | (simp only [List.length_drop, List.length_take]; rfl)) ?_; (with_reducible refine (ontimeref17_has.calls kj2 t264 121 false _ A21.out).mono ?_); rintro e w' ⟨rfl, ⟨nd, rfl⟩⟩; refine ⟨_, rfl, ?_⟩))
          go_ret
          exact ⟨_, by first | rfl | (simp [errW_none, errW_some] <;> rfl) | (simp [*, errW_none, errW_some] <;> rfl), by (with_reducible repeat (first | apply Kd.R_alloc | apply Kd.R_drewN | apply Kd.R_drew)); exact HO_4.out, by repeat (first | (with_reducible first | exact HB.out | apply below_alloc | apply pw_below_drewN | apply below_drew1 | refine below_set ?_ GE263.out) | exact HB.out)⟩
end Go.Proofs.Ythgodpmahdnnjaa.H
end
section
namespace Go.Proofs.Ythgodpmahdnnjaa.H
open Go.RowKit Go.Proofs.YthgodpmahdnnjaaW.PrintWords Go.Proofs.YthgodpmahdnnjaaW.PrintLast Go.Proofs.YthgodpmahdnnjaaW.PrintMore
attribute [local go_sem] max2_int min2_int max_two min_two max_three min_three max_four min_four
set_option linter.unusedVariables false
set_option linter.unusedSimpArgs false
def ir_Succ.j0 : Nat → Bool → List (S62) → Int → Int → Int → Int → Option (List Int)
  | 0, _, _, _, _, _, _ => none
  | k + 1, x3, x102000, x102001, x102002, x102003, x102004 => if x3 = true then (some (([x102003] : List Int))) else (if x102001 = 2 then (some (([x102003, x102004] : List Int))) else (some ([] : List Int)))
def ir_Succ.f (k : Nat) (l0_0 : List (S62)) (a0_1 : Int) (a0_2 : Int) (a0_3 : Int) (a0_4 : Int) : Option (List Int) := if a0_1 = 1 then (ir_Succ.j0 k (a0_1 == 1) l0_0 a0_1 a0_2 a0_3 a0_4) else (if a0_1 = 2 then (ir_Succ.j0 k (a0_3 == a0_4) l0_0 a0_1 a0_2 a0_3 a0_4) else (ir_Succ.j0 k false l0_0 a0_1 a0_2 a0_3 a0_4))
theorem ir_Succ.mono_l : ∀ k, (∀ y0 y1 y2 y3 y4 y5, LeO (ir_Succ.j0 k y0 y1 y2 y3 y4 y5) (ir_Succ.j0 (k + 1) y0 y1 y2 y3 y4 y5))
  | 0 => fun _ _ _ _ _ _ r h => by simp [ir_Succ.j0] at h
  | k + 1 => by
    have ih0 := ir_Succ.mono_l k
    · intro y0 y1 y2 y3 y4 y5
      unfold ir_Succ.j0
      repeat' first
      | (with_reducible exact ih0 _ _ _ _ _ _)
      | (with_reducible exact LeO.refl _)
      | (with_reducible exact LeO.none _)
      | (with_reducible refine LeO.ite ?_ ?_)
      | (with_reducible refine LeO.bind ?_ (fun _ => ?_))
      | exact ih0 _ _ _ _ _ _
      | exact LeO.none _
      | refine LeO.ite ?_ ?_
      | refine LeO.bind ?_ (fun _ => ?_)
theorem ir_Succ.mono : ∀ a0 a1 a2 a3 a4 k, LeO (ir_Succ.f k a0 a1 a2 a3 a4) (ir_Succ.f (k + 1) a0 a1 a2 a3 a4) := by
  intro a0 a1 a2 a3 a4 k
  have ih0 := ir_Succ.mono_l k
  unfold ir_Succ.f
  repeat' first
      | (with_reducible exact ih0 _ _ _ _ _ _)
      | (with_reducible exact LeO.refl _)
      | (with_reducible exact LeO.none _)
      | (with_reducible refine LeO.ite ?_ ?_)
      | (with_reducible refine LeO.bind ?_ (fun _ => ?_))
      | exact ih0 _ _ _ _ _ _
      | exact LeO.none _
      | refine LeO.ite ?_ ?_
      | refine LeO.bind ?_ (fun _ => ?_)
set_option maxHeartbeats 8000000 in
set_option maxRecDepth 100000 in
theorem ir_Succ.calls (k : Nat) (A0_0 : Option Addr) (c0_0 : Nat) (l0_0 : List (S62)) (a0_1 : Int) (a0_2 : Int) (a0_3 : Int) (a0_4 : Int) (r : List Int) (w : World) (hr0_0 : Kd.C k62 w A0_0 l0_0.length l0_0) (hc0_0 : l0_0.length ≤ c0_0) (h : ir_Succ.f k l0_0 a0_1 a0_2 a0_3 a0_4 = some r) :
    Calls Try.prog 24 #[.agg #[.slice A0_0 l0_0.length c0_0, .int .u8 a0_1, .int .i64 a0_2, .int .i64 a0_3, .int .i64 a0_4]] w fun e w' => ∃ v0_ : Value, e = .returned (v0_) ∧ Kd.R (Kd.int .i64) 3 w' w.heap.size (fun _ => True) v0_ r ∧ Below w.heap.size w w' := by
  have hu43 := Try.underlying43
  have HR0_0 := Aside0.mk hr0_0
  have HC0_0 := Aside0.mk hc0_0
  clear hr0_0 hc0_0
  have HB := Aside0.mk (Below.refl w.heap.size w)
  have H : (if a0_1 = 1 then (ir_Succ.j0 k (a0_1 == 1) l0_0 a0_1 a0_2 a0_3 a0_4) else (if a0_1 = 2 then (ir_Succ.j0 k (a0_3 == a0_4) l0_0 a0_1 a0_2 a0_3 a0_4) else (ir_Succ.j0 k false l0_0 a0_1 a0_2 a0_3 a0_4))) = some r := h
  clear h
  have HC2 := Aside0.mk H
  clear H
  go_enter Try.func24, Try.ntmps24
  go_upto_if 3 with (first | ((with_reducible refine gate_dst (N := 1) rfl ?_); refine box_event ?hg (N := 1) ?hd (cs := #[.slice A0_0 l0_0.length c0_0, .int .u8 a0_1, .int .i64 a0_2, .int .i64 a0_3, .int .i64 a0_4]) (t := 43) ?hr ?_; (case hd => rfl); (case hg => rfl); (case hr => first | (go_simp; done) | (go_simp; rfl)); intro gb101 hg w3 hbox hb; have n0_ := Aside0.mk (below_step (by repeat (first | (with_reducible first | exact HB.out | apply below_alloc | apply pw_below_drewN | apply below_drew1) | exact HB.out)) hb); have n1_ := Aside0.mk (hbox); have n2_ := Aside0.mk ((by rw [hg]; exact (below_size (by repeat (first | (with_reducible first | exact HB.out | apply below_alloc | apply pw_below_drewN | apply below_drew1) | exact HB.out))) : w.heap.size ≤ gb101)); have n3_ := Aside0.mk ((by rw [hg]; exact (below_size (by repeat (first | (with_reducible first | exact HB.out | apply below_alloc | apply pw_below_drewN | apply below_drew1) | exact HB.out))) : w.heap.size ≤ gb101)); clear HB; have HB := n0_; have BK101 := n1_; have GW101 := n2_; have GE101 := n3_; clear n0_ n1_ n2_ n3_; clear hb hbox hg; have hcz4_0 : w3.cell? ⟨gb101, 0, none⟩ = some (.slice A0_0 l0_0.length c0_0) := (blk_cell BK101.out 0).trans rfl; have hcz4_1 : w3.cell? ⟨gb101, 1, none⟩ = some (.int .u8 a0_1) := (blk_cell BK101.out 1).trans rfl; have hcz4_2 : w3.cell? ⟨gb101, 2, none⟩ = some (.int .i64 a0_2) := (blk_cell BK101.out 2).trans rfl; have hcz4_3 : w3.cell? ⟨gb101, 3, none⟩ = some (.int .i64 a0_3) := (blk_cell BK101.out 3).trans rfl; have hcz4_4 : w3.cell? ⟨gb101, 4, none⟩ = some (.int .i64 a0_4) := (blk_cell BK101.out 4).trans rfl; have hfz4_0 := blk_frozen BK101.out 0; have hfz4_1 := blk_frozen BK101.out 1; have hfz4_2 := blk_frozen BK101.out 2; have hfz4_3 := blk_frozen BK101.out 3; have hfz4_4 := blk_frozen BK101.out 4))
  (try simp only [Act.put, List.setIfInBounds_toArray, List.set_cons_zero, List.set_cons_succ])
  go_cut [3] (fun v3 wc => ∃ (kq : Nat) (x3_1 : Bool), v3 = .bool x3_1 ∧ Aside0 (ir_Succ.j0 kq x3_1 l0_0 a0_1 a0_2 a0_3 a0_4 = some r) ∧ Aside0 (kq ≤ k) ∧ Aside0 (wc.heap[gb101]? = some (.cells #[(.slice A0_0 l0_0.length c0_0), .int .u8 a0_1, .int .i64 a0_2, .int .i64 a0_3, .int .i64 a0_4] 43 (0, 0))) ∧ Aside0 (Below w.heap.size w wc))
  case first =>
    have H := HC2.out
    clear HC2
    by_cases c5 : a0_1 = 1
    · rw [if_pos c5] at H
      have c5b0 : (a0_1 == 1) = true := beq_iff_eq.mpr c5
      have c5b1 : (a0_1 != 1) = false := bne_eq_false_iff_eq.mpr c5
      clear c5
      (first | rw [c5b0] | (simp only [i64_w, i32_w]; rw [c5b0]) | skip)
      have H' := Aside0.mk H
      clear H
      go_wp2
      go_meet
      case rel => exact ⟨_, ((a0_1 == 1)), (by first | rfl | (simp; done) | (simp [*]; done)), H', ⟨by first | omega | exact Nat.le_refl _⟩, ⟨by (with_reducible repeat (first | refine blk_drewN ?_ _ | refine blk_drew ?_ | refine blk_alloc ?_ _)); exact BK101.out⟩, ⟨by repeat (first | (with_reducible first | exact HB.out | apply below_alloc | apply pw_below_drewN | apply below_drew1 | refine below_set ?_ GE101.out) | exact HB.out)⟩⟩
    · rw [if_neg c5] at H
      have c5b0 : (a0_1 == 1) = false := beq_eq_false_iff_ne.mpr c5
      have c5b1 : (a0_1 != 1) = true := bne_iff_ne.mpr c5
      (first | rw [c5b0] | (simp only [i64_w, i32_w]; rw [c5b0]) | skip)
      by_cases c6 : a0_1 = 2
      · rw [if_pos c6] at H
        have c6b0 : (a0_1 == 2) = true := beq_iff_eq.mpr c6
        have c6b1 : (a0_1 != 2) = false := bne_eq_false_iff_eq.mpr c6
        clear c6
        have H' := Aside0.mk H
        clear H
        have hcz7_0 : w3.cell? ⟨gb101, 0, none⟩ = some (.slice A0_0 l0_0.length c0_0) := (blk_cell BK101.out 0).trans rfl
        have hcz7_1 : w3.cell? ⟨gb101, 1, none⟩ = some (.int .u8 a0_1) := (blk_cell BK101.out 1).trans rfl
        have hcz7_2 : w3.cell? ⟨gb101, 2, none⟩ = some (.int .i64 a0_2) := (blk_cell BK101.out 2).trans rfl
        have hcz7_3 : w3.cell? ⟨gb101, 3, none⟩ = some (.int .i64 a0_3) := (blk_cell BK101.out 3).trans rfl
        have hcz7_4 : w3.cell? ⟨gb101, 4, none⟩ = some (.int .i64 a0_4) := (blk_cell BK101.out 4).trans rfl
        have hfz7_0 := blk_frozen BK101.out 0
        have hfz7_1 := blk_frozen BK101.out 1
        have hfz7_2 := blk_frozen BK101.out 2
        have hfz7_3 := blk_frozen BK101.out 3
        have hfz7_4 := blk_frozen BK101.out 4
        go_wp2
        go_meet
        case rel => exact ⟨_, ((a0_3 == a0_4)), (by first | rfl | (simp; done) | (simp [*]; done)), H', ⟨by first | omega | exact Nat.le_refl _⟩, ⟨by (with_reducible repeat (first | refine blk_drewN ?_ _ | refine blk_drew ?_ | refine blk_alloc ?_ _)); exact BK101.out⟩, ⟨by repeat (first | (with_reducible first | exact HB.out | apply below_alloc | apply pw_below_drewN | apply below_drew1 | refine below_set ?_ GE101.out) | exact HB.out)⟩⟩
      · rw [if_neg c6] at H
        have c6b0 : (a0_1 == 2) = false := beq_eq_false_iff_ne.mpr c6
        have c6b1 : (a0_1 != 2) = true := bne_iff_ne.mpr c6
        have H' := Aside0.mk H
        clear H
        have hcz8_0 : w3.cell? ⟨gb101, 0, none⟩ = some (.slice A0_0 l0_0.length c0_0) := (blk_cell BK101.out 0).trans rfl
        have hcz8_1 : w3.cell? ⟨gb101, 1, none⟩ = some (.int .u8 a0_1) := (blk_cell BK101.out 1).trans rfl
        have hcz8_2 : w3.cell? ⟨gb101, 2, none⟩ = some (.int .i64 a0_2) := (blk_cell BK101.out 2).trans rfl
        have hcz8_3 : w3.cell? ⟨gb101, 3, none⟩ = some (.int .i64 a0_3) := (blk_cell BK101.out 3).trans rfl
        have hcz8_4 : w3.cell? ⟨gb101, 4, none⟩ = some (.int .i64 a0_4) := (blk_cell BK101.out 4).trans rfl
        have hfz8_0 := blk_frozen BK101.out 0
        have hfz8_1 := blk_frozen BK101.out 1
        have hfz8_2 := blk_frozen BK101.out 2
        have hfz8_3 := blk_frozen BK101.out 3
        have hfz8_4 := blk_frozen BK101.out 4
        go_wp2
        go_meet
        case rel => exact ⟨_, (false), (by first | rfl | (simp; done) | (simp [*]; done)), H', ⟨by first | omega | exact Nat.le_refl _⟩, ⟨by (with_reducible repeat (first | refine blk_drewN ?_ _ | refine blk_drew ?_ | refine blk_alloc ?_ _)); exact BK101.out⟩, ⟨by repeat (first | (with_reducible first | exact HB.out | apply below_alloc | apply pw_below_drewN | apply below_drew1 | refine below_set ?_ GE101.out) | exact HB.out)⟩⟩
  case rest =>
    clear HC2
    try clear c2
    try clear p2
    try clear c5
    try clear c5b0
    try clear c5b1
    try clear c6
    try clear c6b0
    try clear c6b1
    try clear hcz4_0
    try clear hcz4_1
    try clear hcz4_2
    try clear hcz4_3
    try clear hcz4_4
    try clear hcz7_0
    try clear hcz7_1
    try clear hcz7_2
    try clear hcz7_3
    try clear hcz7_4
    try clear hcz8_0
    try clear hcz8_1
    try clear hcz8_2
    try clear hcz8_3
    try clear hcz8_4
    try clear hfz4_0
    try clear hfz4_1
    try clear hfz4_2
    try clear hfz4_3
    try clear hfz4_4
    try clear hfz7_0
    try clear hfz7_1
    try clear hfz7_2
    try clear hfz7_3
    try clear hfz7_4
    try clear hfz8_0
    try clear hfz8_1
    try clear hfz8_2
    try clear hfz8_3
    try clear hfz8_4
    obtain ⟨kq, x3_1, rfl, HA, HJ1, BK101, HB⟩ := hcut
    cases kq with
    | zero => exact absurd HA.out (by simp [ir_Succ.j0])
    | succ kj1 =>
      have H := HA.out
      clear HA
      simp only [ir_Succ.j0] at H
      by_cases c9 : x3_1 = true
      · subst c9
        have H1 : (some (([a0_3] : List Int))) = some r := by rw [if_pos rfl] at H; exact H
        clear H
        have H := H1
        clear H1
        obtain ⟨y102, hy102⟩ : ∃ y_ : List Int, y_ = (([a0_3] : List Int)) := ⟨_, rfl⟩
        replace H : (some y102) = some r := by first | (rw [hy102]; with_reducible exact H) | (have H2_ := (Option.bind_some _ _).symm.trans H; rw [hy102]; with_reducible exact H2_) | (have H2_ := (Option.bind_some _ _).symm.trans H; with_reducible exact H2_) | with_reducible exact H | (rw [hy102]; exact H) | exact H
        have Ny102 := Aside0.mk hy102
        clear hy102
        obtain rfl := Option.some.inj H
        have hcz10_0 : wc.cell? ⟨gb101, 0, none⟩ = some (.slice A0_0 l0_0.length c0_0) := (blk_cell BK101.out 0).trans rfl
        have hcz10_1 : wc.cell? ⟨gb101, 1, none⟩ = some (.int .u8 a0_1) := (blk_cell BK101.out 1).trans rfl
        have hcz10_2 : wc.cell? ⟨gb101, 2, none⟩ = some (.int .i64 a0_2) := (blk_cell BK101.out 2).trans rfl
        have hcz10_3 : wc.cell? ⟨gb101, 3, none⟩ = some (.int .i64 a0_3) := (blk_cell BK101.out 3).trans rfl
        have hcz10_4 : wc.cell? ⟨gb101, 4, none⟩ = some (.int .i64 a0_4) := (blk_cell BK101.out 4).trans rfl
        have hfz10_0 := blk_frozen BK101.out 0
        have hfz10_1 := blk_frozen BK101.out 1
        have hfz10_2 := blk_frozen BK101.out 2
        have hfz10_3 := blk_frozen BK101.out 3
        have hfz10_4 := blk_frozen BK101.out 4
        go_wp2_with (first | ((with_reducible refine gate_dst (N := 19) rfl ?_); refine Kd.R_lit (Kd.int .i64) _ 3 ?hg (N := 19) ?hd (xs := ([a0_3] : List Int)) (inner := [.int .i64 a0_3]) (ok := fun _ => True) (okp := fun _ => True) ?hr ?hp (fun _ hk => hk) trivial (Below.refl _ _) (Nat.le_refl _) (by simp) ?_; (case hd => rfl); (case hg => rfl); (case hr => first | (go_simp; done) | (go_simp; rfl)); (case hp => exact (Reps.one (show Kd.M (Kd.int .i64) _ _ _ a0_3 [.int .i64 a0_3] from rfl) (Reps.none _ _))); intro v103 w11 ho12 hb hg_ hnew_; clear hg_ hnew_; (first | rw [← Ny102.out] at ho12 | (simp only [Int.reduceToNat] at ho12; rw [← Ny102.out] at ho12)); have n0_ := Aside0.mk (Kd.R_lower ho12 (below_size (by repeat (first | (with_reducible first | exact HB.out | apply below_alloc | apply pw_below_drewN | apply below_drew1 | refine below_set ?_ GE101.out) | exact HB.out)))); have n1_ := Aside0.mk (blk_below (g := gb101) (o := .cells #[.slice A0_0 l0_0.length c0_0, .int .u8 a0_1, .int .i64 a0_2, .int .i64 a0_3, .int .i64 a0_4] 43 (0, 0)) (by (with_reducible repeat (first | refine blk_drewN ?_ _ | refine blk_drew ?_ | refine blk_alloc ?_ _)); exact BK101.out) hb); have n2_ := Aside0.mk (below_step (by repeat (first | (with_reducible first | exact HB.out | apply below_alloc | apply pw_below_drewN | apply below_drew1 | refine below_set ?_ GE101.out) | exact HB.out)) hb); clear BK101; clear HB; have HO104 := n0_; have BK101 := n1_; have HB := n2_; clear n0_ n1_ n2_; clear hb ho12))
        go_ret
        exact ⟨_, by first | rfl | (simp [errW_none, errW_some] <;> rfl) | (simp [*, errW_none, errW_some] <;> rfl), by (with_reducible repeat (first | apply Kd.R_alloc | apply Kd.R_drewN | apply Kd.R_drew)); exact HO104.out, by repeat (first | (with_reducible first | exact HB.out | apply below_alloc | apply pw_below_drewN | apply below_drew1 | refine below_set ?_ GE101.out) | exact HB.out)⟩
      · replace c9 := Bool.eq_false_iff.mpr c9
        subst c9
        have H1 : (if a0_1 = 2 then (some (([a0_3, a0_4] : List Int))) else (some ([] : List Int))) = some r := by rw [if_neg (show ¬ (false = true) by decide)] at H; exact H
        clear H
        have H := H1
        clear H1
        by_cases c13 : a0_1 = 2
        · rw [if_pos c13] at H
          have c13b0 : (a0_1 == 2) = true := beq_iff_eq.mpr c13
          have c13b1 : (a0_1 != 2) = false := bne_eq_false_iff_eq.mpr c13
          clear c13
          obtain ⟨y105, hy105⟩ : ∃ y_ : List Int, y_ = (([a0_3, a0_4] : List Int)) := ⟨_, rfl⟩
          replace H : (some y105) = some r := by first | (rw [hy105]; with_reducible exact H) | (have H2_ := (Option.bind_some _ _).symm.trans H; rw [hy105]; with_reducible exact H2_) | (have H2_ := (Option.bind_some _ _).symm.trans H; with_reducible exact H2_) | with_reducible exact H | (rw [hy105]; exact H) | exact H
          have Ny105 := Aside0.mk hy105
          clear hy105
          obtain rfl := Option.some.inj H
          have hcz14_0 : wc.cell? ⟨gb101, 0, none⟩ = some (.slice A0_0 l0_0.length c0_0) := (blk_cell BK101.out 0).trans rfl
          have hcz14_1 : wc.cell? ⟨gb101, 1, none⟩ = some (.int .u8 a0_1) := (blk_cell BK101.out 1).trans rfl
          have hcz14_2 : wc.cell? ⟨gb101, 2, none⟩ = some (.int .i64 a0_2) := (blk_cell BK101.out 2).trans rfl
          have hcz14_3 : wc.cell? ⟨gb101, 3, none⟩ = some (.int .i64 a0_3) := (blk_cell BK101.out 3).trans rfl
          have hcz14_4 : wc.cell? ⟨gb101, 4, none⟩ = some (.int .i64 a0_4) := (blk_cell BK101.out 4).trans rfl
          have hfz14_0 := blk_frozen BK101.out 0
          have hfz14_1 := blk_frozen BK101.out 1
          have hfz14_2 := blk_frozen BK101.out 2
          have hfz14_3 := blk_frozen BK101.out 3
          have hfz14_4 := blk_frozen BK101.out 4
          go_wp2_with (first | ((with_reducible refine gate_dst (N := 28) rfl ?_); refine Kd.R_lit (Kd.int .i64) _ 3 ?hg (N := 28) ?hd (xs := ([a0_3, a0_4] : List Int)) (inner := [.int .i64 a0_3, .int .i64 a0_4]) (ok := fun _ => True) (okp := fun _ => True) ?hr ?hp (fun _ hk => hk) trivial (Below.refl _ _) (Nat.le_refl _) (by simp) ?_; (case hd => rfl); (case hg => rfl); (case hr => first | (go_simp; done) | (go_simp; rfl)); (case hp => exact (Reps.one (show Kd.M (Kd.int .i64) _ _ _ a0_3 [.int .i64 a0_3] from rfl) (Reps.one (show Kd.M (Kd.int .i64) _ _ _ a0_4 [.int .i64 a0_4] from rfl) (Reps.none _ _)))); intro v106 w15 ho16 hb hg_ hnew_; clear hg_ hnew_; (first | rw [← Ny105.out] at ho16 | (simp only [Int.reduceToNat] at ho16; rw [← Ny105.out] at ho16)); have n0_ := Aside0.mk (Kd.R_lower ho16 (below_size (by repeat (first | (with_reducible first | exact HB.out | apply below_alloc | apply pw_below_drewN | apply below_drew1 | refine below_set ?_ GE101.out) | exact HB.out)))); have n1_ := Aside0.mk (blk_below (g := gb101) (o := .cells #[.slice A0_0 l0_0.length c0_0, .int .u8 a0_1, .int .i64 a0_2, .int .i64 a0_3, .int .i64 a0_4] 43 (0, 0)) (by (with_reducible repeat (first | refine blk_drewN ?_ _ | refine blk_drew ?_ | refine blk_alloc ?_ _)); exact BK101.out) hb); have n2_ := Aside0.mk (below_step (by repeat (first | (with_reducible first | exact HB.out | apply below_alloc | apply pw_below_drewN | apply below_drew1 | refine below_set ?_ GE101.out) | exact HB.out)) hb); clear BK101; clear HB; have HO107 := n0_; have BK101 := n1_; have HB := n2_; clear n0_ n1_ n2_; clear hb ho16))
          go_ret
          exact ⟨_, by first | rfl | (simp [errW_none, errW_some] <;> rfl) | (simp [*, errW_none, errW_some] <;> rfl), by (with_reducible repeat (first | apply Kd.R_alloc | apply Kd.R_drewN | apply Kd.R_drew)); exact HO107.out, by repeat (first | (with_reducible first | exact HB.out | apply below_alloc | apply pw_below_drewN | apply below_drew1 | refine below_set ?_ GE101.out) | exact HB.out)⟩
        · rw [if_neg c13] at H
          have c13b0 : (a0_1 == 2) = false := beq_eq_false_iff_ne.mpr c13
          have c13b1 : (a0_1 != 2) = true := bne_iff_ne.mpr c13
          obtain rfl := Option.some.inj H
          have hcz17_0 : wc.cell? ⟨gb101, 0, none⟩ = some (.slice A0_0 l0_0.length c0_0) := (blk_cell BK101.out 0).trans rfl
          have hcz17_1 : wc.cell? ⟨gb101, 1, none⟩ = some (.int .u8 a0_1) := (blk_cell BK101.out 1).trans rfl
          have hcz17_2 : wc.cell? ⟨gb101, 2, none⟩ = some (.int .i64 a0_2) := (blk_cell BK101.out 2).trans rfl
          have hcz17_3 : wc.cell? ⟨gb101, 3, none⟩ = some (.int .i64 a0_3) := (blk_cell BK101.out 3).trans rfl
          have hcz17_4 : wc.cell? ⟨gb101, 4, none⟩ = some (.int .i64 a0_4) := (blk_cell BK101.out 4).trans rfl
          have hfz17_0 := blk_frozen BK101.out 0
          have hfz17_1 := blk_frozen BK101.out 1
          have hfz17_2 := blk_frozen BK101.out 2
          have hfz17_3 := blk_frozen BK101.out 3
          have hfz17_4 := blk_frozen BK101.out 4
          go_wp2
          go_ret
          exact ⟨_, by first | rfl | (simp [errW_none, errW_some] <;> rfl) | (simp [*, errW_none, errW_some] <;> rfl), by first | exact Kd.R_nil _ _ _ _ _ | exact Kd.N_nil _ _ _ _ _ | exact Kd.V_nil _ _ _ _ _ | exact Kd.Q_nil _ _ _ _ _ | exact Kd.S_nil _ _ _ _ _, by repeat (first | (with_reducible first | exact HB.out | apply below_alloc | apply pw_below_drewN | apply below_drew1 | refine below_set ?_ GE101.out) | exact HB.out)⟩
end Go.Proofs.Ythgodpmahdnnjaa.H
end
section
namespace Go.Proofs.Ythgodpmahdnnjaa.H
open Go.RowKit Go.Proofs.YthgodpmahdnnjaaW.PrintWords Go.Proofs.YthgodpmahdnnjaaW.PrintLast Go.Proofs.YthgodpmahdnnjaaW.PrintMore
attribute [local go_sem] max2_int min2_int max_two min_two max_three min_three max_four min_four
set_option linter.unusedVariables false
set_option linter.unusedSimpArgs false
def ontimeref17_Succ.j0 : Nat → Bool → List (S80) → Int → Int → Int → Int → Option (List Int)
  | 0, _, _, _, _, _, _ => none
  | k + 1, x17, x278000, x278001, x278002, x278003, x278004 => if x17 = true then (some (([x278003] : List Int))) else (if x278001 = 2 then (some (([x278003, x278004] : List Int))) else (some ([] : List Int)))
def ontimeref17_Succ.f (k : Nat) (l0_0 : List (S80)) (a0_1 : Int) (a0_2 : Int) (a0_3 : Int) (a0_4 : Int) : Option (List Int) := if a0_1 = 1 then (ontimeref17_Succ.j0 k true l0_0 a0_1 a0_2 a0_3 a0_4) else (if a0_1 = 2 then (ontimeref17_Succ.j0 k (a0_3 == a0_4) l0_0 a0_1 a0_2 a0_3 a0_4) else (ontimeref17_Succ.j0 k false l0_0 a0_1 a0_2 a0_3 a0_4))
theorem ontimeref17_Succ.mono_l : ∀ k, (∀ y0 y1 y2 y3 y4 y5, LeO (ontimeref17_Succ.j0 k y0 y1 y2 y3 y4 y5) (ontimeref17_Succ.j0 (k + 1) y0 y1 y2 y3 y4 y5))
  | 0 => fun _ _ _ _ _ _ r h => by simp [ontimeref17_Succ.j0] at h
  | k + 1 => by
    have ih0 := ontimeref17_Succ.mono_l k
    · intro y0 y1 y2 y3 y4 y5
      unfold ontimeref17_Succ.j0
      repeat' first
      | (with_reducible exact ih0 _ _ _ _ _ _)
      | (with_reducible exact LeO.refl _)
      | (with_reducible exact LeO.none _)
      | (with_reducible refine LeO.ite ?_ ?_)
      | (with_reducible refine LeO.bind ?_ (fun _ => ?_))
      | exact ih0 _ _ _ _ _ _
      | exact LeO.none _
      | refine LeO.ite ?_ ?_
      | refine LeO.bind ?_ (fun _ => ?_)
theorem ontimeref17_Succ.mono : ∀ a0 a1 a2 a3 a4 k, LeO (ontimeref17_Succ.f k a0 a1 a2 a3 a4) (ontimeref17_Succ.f (k + 1) a0 a1 a2 a3 a4) := by
  intro a0 a1 a2 a3 a4 k
  have ih0 := ontimeref17_Succ.mono_l k
  unfold ontimeref17_Succ.f
  repeat' first
      | (with_reducible exact ih0 _ _ _ _ _ _)
      | (with_reducible exact LeO.refl _)
      | (with_reducible exact LeO.none _)
      | (with_reducible refine LeO.ite ?_ ?_)
      | (with_reducible refine LeO.bind ?_ (fun _ => ?_))
      | exact ih0 _ _ _ _ _ _
      | exact LeO.none _
      | refine LeO.ite ?_ ?_
      | refine LeO.bind ?_ (fun _ => ?_)
set_option maxHeartbeats 8000000 in
set_option maxRecDepth 100000 in
theorem ontimeref17_Succ.calls (k : Nat) (A0_0 : Option Addr) (c0_0 : Nat) (l0_0 : List (S80)) (a0_1 : Int) (a0_2 : Int) (a0_3 : Int) (a0_4 : Int) (r : List Int) (w : World) (hr0_0 : Kd.C k80 w A0_0 l0_0.length l0_0) (hc0_0 : l0_0.length ≤ c0_0) (h : ontimeref17_Succ.f k l0_0 a0_1 a0_2 a0_3 a0_4 = some r) :
    Calls Try.prog 39 #[.agg #[.slice A0_0 l0_0.length c0_0, .int .u8 a0_1, .int .i64 a0_2, .int .i64 a0_3, .int .i64 a0_4]] w fun e w' => ∃ v0_ : Value, e = .returned (v0_) ∧ Kd.R (Kd.int .i64) 3 w' w.heap.size (fun _ => True) v0_ r ∧ Below w.heap.size w w' := by
  have hu79 := Try.underlying79
  have HR0_0 := Aside0.mk hr0_0
  have HC0_0 := Aside0.mk hc0_0
  clear hr0_0 hc0_0
  have HB := Aside0.mk (Below.refl w.heap.size w)
  have H : (if a0_1 = 1 then (ontimeref17_Succ.j0 k true l0_0 a0_1 a0_2 a0_3 a0_4) else (if a0_1 = 2 then (ontimeref17_Succ.j0 k (a0_3 == a0_4) l0_0 a0_1 a0_2 a0_3 a0_4) else (ontimeref17_Succ.j0 k false l0_0 a0_1 a0_2 a0_3 a0_4))) = some r := h
  clear h
  have HC2 := Aside0.mk H
  clear H
  go_enter Try.func39, Try.ntmps39
  go_upto_region 1 with (first | ((with_reducible refine gate_dst (N := 1) rfl ?_); refine box_event ?hg (N := 1) ?hd (cs := #[.slice A0_0 l0_0.length c0_0, .int .u8 a0_1, .int .i64 a0_2, .int .i64 a0_3, .int .i64 a0_4]) (t := 79) ?hr ?_; (case hd => rfl); (case hg => rfl); (case hr => first | (go_simp; done) | (go_simp; rfl)); intro gb277 hg w3 hbox hb; have n0_ := Aside0.mk (below_step (by repeat (first | (with_reducible first | exact HB.out | apply below_alloc | apply pw_below_drewN | apply below_drew1) | exact HB.out)) hb); have n1_ := Aside0.mk (hbox); have n2_ := Aside0.mk ((by rw [hg]; exact (below_size (by repeat (first | (with_reducible first | exact HB.out | apply below_alloc | apply pw_below_drewN | apply below_drew1) | exact HB.out))) : w.heap.size ≤ gb277)); have n3_ := Aside0.mk ((by rw [hg]; exact (below_size (by repeat (first | (with_reducible first | exact HB.out | apply below_alloc | apply pw_below_drewN | apply below_drew1) | exact HB.out))) : w.heap.size ≤ gb277)); clear HB; have HB := n0_; have BK277 := n1_; have GW277 := n2_; have GE277 := n3_; clear n0_ n1_ n2_ n3_; clear hb hbox hg))
  (try simp only [Act.put, List.setIfInBounds_toArray, List.set_cons_zero, List.set_cons_succ])
  go_cut [17] (fun v17 wc => ∃ (kq : Nat) (x17_1 : Bool), v17 = .bool x17_1 ∧ Aside0 (ontimeref17_Succ.j0 kq x17_1 l0_0 a0_1 a0_2 a0_3 a0_4 = some r) ∧ Aside0 (kq ≤ k) ∧ Aside0 (wc.heap[gb277]? = some (.cells #[(.slice A0_0 l0_0.length c0_0), .int .u8 a0_1, .int .i64 a0_2, .int .i64 a0_3, .int .i64 a0_4] 79 (0, 0))) ∧ Aside0 (Below w.heap.size w wc))
  case first =>
    have H := HC2.out
    clear HC2
    by_cases c4 : a0_1 = 1
    · rw [if_pos c4] at H
      have c4b0 : (a0_1 == 1) = true := beq_iff_eq.mpr c4
      have c4b1 : (a0_1 != 1) = false := bne_eq_false_iff_eq.mpr c4
      clear c4
      (first | rw [c4b0] | (simp only [i64_w, i32_w]; rw [c4b0]) | skip)
      have H' := Aside0.mk H
      clear H
      have hcz5_0 : w3.cell? ⟨gb277, 0, none⟩ = some (.slice A0_0 l0_0.length c0_0) := (blk_cell BK277.out 0).trans rfl
      have hcz5_1 : w3.cell? ⟨gb277, 1, none⟩ = some (.int .u8 a0_1) := (blk_cell BK277.out 1).trans rfl
      have hcz5_2 : w3.cell? ⟨gb277, 2, none⟩ = some (.int .i64 a0_2) := (blk_cell BK277.out 2).trans rfl
      have hcz5_3 : w3.cell? ⟨gb277, 3, none⟩ = some (.int .i64 a0_3) := (blk_cell BK277.out 3).trans rfl
      have hcz5_4 : w3.cell? ⟨gb277, 4, none⟩ = some (.int .i64 a0_4) := (blk_cell BK277.out 4).trans rfl
      have hfz5_0 := blk_frozen BK277.out 0
      have hfz5_1 := blk_frozen BK277.out 1
      have hfz5_2 := blk_frozen BK277.out 2
      have hfz5_3 := blk_frozen BK277.out 3
      have hfz5_4 := blk_frozen BK277.out 4
      go_wp2
      go_meet
      case rel => exact ⟨_, (true), (by first | rfl | (simp; done) | (simp [*]; done)), H', ⟨by first | omega | exact Nat.le_refl _⟩, ⟨by (with_reducible repeat (first | refine blk_drewN ?_ _ | refine blk_drew ?_ | refine blk_alloc ?_ _)); exact BK277.out⟩, ⟨by repeat (first | (with_reducible first | exact HB.out | apply below_alloc | apply pw_below_drewN | apply below_drew1 | refine below_set ?_ GE277.out) | exact HB.out)⟩⟩
    · rw [if_neg c4] at H
      have c4b0 : (a0_1 == 1) = false := beq_eq_false_iff_ne.mpr c4
      have c4b1 : (a0_1 != 1) = true := bne_iff_ne.mpr c4
      (first | rw [c4b0] | (simp only [i64_w, i32_w]; rw [c4b0]) | skip)
      by_cases c6 : a0_1 = 2
      · rw [if_pos c6] at H
        have c6b0 : (a0_1 == 2) = true := beq_iff_eq.mpr c6
        have c6b1 : (a0_1 != 2) = false := bne_eq_false_iff_eq.mpr c6
        clear c6
        have H' := Aside0.mk H
        clear H
        have hcz7_0 : w3.cell? ⟨gb277, 0, none⟩ = some (.slice A0_0 l0_0.length c0_0) := (blk_cell BK277.out 0).trans rfl
        have hcz7_1 : w3.cell? ⟨gb277, 1, none⟩ = some (.int .u8 a0_1) := (blk_cell BK277.out 1).trans rfl
        have hcz7_2 : w3.cell? ⟨gb277, 2, none⟩ = some (.int .i64 a0_2) := (blk_cell BK277.out 2).trans rfl
        have hcz7_3 : w3.cell? ⟨gb277, 3, none⟩ = some (.int .i64 a0_3) := (blk_cell BK277.out 3).trans rfl
        have hcz7_4 : w3.cell? ⟨gb277, 4, none⟩ = some (.int .i64 a0_4) := (blk_cell BK277.out 4).trans rfl
        have hfz7_0 := blk_frozen BK277.out 0
        have hfz7_1 := blk_frozen BK277.out 1
        have hfz7_2 := blk_frozen BK277.out 2
        have hfz7_3 := blk_frozen BK277.out 3
        have hfz7_4 := blk_frozen BK277.out 4
        go_wp2
        go_meet
        case rel => exact ⟨_, ((a0_3 == a0_4)), (by first | rfl | (simp; done) | (simp [*]; done)), H', ⟨by first | omega | exact Nat.le_refl _⟩, ⟨by (with_reducible repeat (first | refine blk_drewN ?_ _ | refine blk_drew ?_ | refine blk_alloc ?_ _)); exact BK277.out⟩, ⟨by repeat (first | (with_reducible first | exact HB.out | apply below_alloc | apply pw_below_drewN | apply below_drew1 | refine below_set ?_ GE277.out) | exact HB.out)⟩⟩
      · rw [if_neg c6] at H
        have c6b0 : (a0_1 == 2) = false := beq_eq_false_iff_ne.mpr c6
        have c6b1 : (a0_1 != 2) = true := bne_iff_ne.mpr c6
        have H' := Aside0.mk H
        clear H
        have hcz8_0 : w3.cell? ⟨gb277, 0, none⟩ = some (.slice A0_0 l0_0.length c0_0) := (blk_cell BK277.out 0).trans rfl
        have hcz8_1 : w3.cell? ⟨gb277, 1, none⟩ = some (.int .u8 a0_1) := (blk_cell BK277.out 1).trans rfl
        have hcz8_2 : w3.cell? ⟨gb277, 2, none⟩ = some (.int .i64 a0_2) := (blk_cell BK277.out 2).trans rfl
        have hcz8_3 : w3.cell? ⟨gb277, 3, none⟩ = some (.int .i64 a0_3) := (blk_cell BK277.out 3).trans rfl
        have hcz8_4 : w3.cell? ⟨gb277, 4, none⟩ = some (.int .i64 a0_4) := (blk_cell BK277.out 4).trans rfl
        have hfz8_0 := blk_frozen BK277.out 0
        have hfz8_1 := blk_frozen BK277.out 1
        have hfz8_2 := blk_frozen BK277.out 2
        have hfz8_3 := blk_frozen BK277.out 3
        have hfz8_4 := blk_frozen BK277.out 4
        go_wp2
        go_meet
        case rel => exact ⟨_, (false), (by first | rfl | (simp; done) | (simp [*]; done)), H', ⟨by first | omega | exact Nat.le_refl _⟩, ⟨by (with_reducible repeat (first | refine blk_drewN ?_ _ | refine blk_drew ?_ | refine blk_alloc ?_ _)); exact BK277.out⟩, ⟨by repeat (first | (with_reducible first | exact HB.out | apply below_alloc | apply pw_below_drewN | apply below_drew1 | refine below_set ?_ GE277.out) | exact HB.out)⟩⟩
  case rest =>
    clear HC2
    try clear p2
    try clear c3
    try clear c4
    try clear c4b0
    try clear c4b1
    try clear c6
    try clear c6b0
    try clear c6b1
    try clear hcz5_0
    try clear hcz5_1
    try clear hcz5_2
    try clear hcz5_3
    try clear hcz5_4
    try clear hcz7_0
    try clear hcz7_1
    try clear hcz7_2
    try clear hcz7_3
    try clear hcz7_4
    try clear hcz8_0
    try clear hcz8_1
    try clear hcz8_2
    try clear hcz8_3
    try clear hcz8_4
    try clear hfz5_0
    try clear hfz5_1
    try clear hfz5_2
    try clear hfz5_3
    try clear hfz5_4
    try clear hfz7_0
    try clear hfz7_1
    try clear hfz7_2
    try clear hfz7_3
    try clear hfz7_4
    try clear hfz8_0
    try clear hfz8_1
    try clear hfz8_2
    try clear hfz8_3
    try clear hfz8_4
    obtain ⟨kq, x17_1, rfl, HA, HJ1, BK277, HB⟩ := hcut
    cases kq with
    | zero => exact absurd HA.out (by simp [ontimeref17_Succ.j0])
    | succ kj1 =>
      have H := HA.out
      clear HA
      simp only [ontimeref17_Succ.j0] at H
      by_cases c9 : x17_1 = true
      · subst c9
        have H1 : (some (([a0_3] : List Int))) = some r := by rw [if_pos rfl] at H; exact H
        clear H
        have H := H1
        clear H1
        obtain ⟨y278, hy278⟩ : ∃ y_ : List Int, y_ = (([a0_3] : List Int)) := ⟨_, rfl⟩
        replace H : (some y278) = some r := by first | (rw [hy278]; with_reducible exact H) | (have H2_ := (Option.bind_some _ _).symm.trans H; rw [hy278]; with_reducible exact H2_) | (have H2_ := (Option.bind_some _ _).symm.trans H; with_reducible exact H2_) | with_reducible exact H | (rw [hy278]; exact H) | exact H
        have Ny278 := Aside0.mk hy278
        clear hy278
        obtain rfl := Option.some.inj H
        have hcz10_0 : wc.cell? ⟨gb277, 0, none⟩ = some (.slice A0_0 l0_0.length c0_0) := (blk_cell BK277.out 0).trans rfl
        have hcz10_1 : wc.cell? ⟨gb277, 1, none⟩ = some (.int .u8 a0_1) := (blk_cell BK277.out 1).trans rfl
        have hcz10_2 : wc.cell? ⟨gb277, 2, none⟩ = some (.int .i64 a0_2) := (blk_cell BK277.out 2).trans rfl
        have hcz10_3 : wc.cell? ⟨gb277, 3, none⟩ = some (.int .i64 a0_3) := (blk_cell BK277.out 3).trans rfl
        have hcz10_4 : wc.cell? ⟨gb277, 4, none⟩ = some (.int .i64 a0_4) := (blk_cell BK277.out 4).trans rfl
        have hfz10_0 := blk_frozen BK277.out 0
        have hfz10_1 := blk_frozen BK277.out 1
        have hfz10_2 := blk_frozen BK277.out 2
        have hfz10_3 := blk_frozen BK277.out 3
        have hfz10_4 := blk_frozen BK277.out 4
        go_wp2_with (first | ((with_reducible refine gate_dst (N := 20) rfl ?_); refine Kd.R_lit (Kd.int .i64) _ 3 ?hg (N := 20) ?hd (xs := ([a0_3] : List Int)) (inner := [.int .i64 a0_3]) (ok := fun _ => True) (okp := fun _ => True) ?hr ?hp (fun _ hk => hk) trivial (Below.refl _ _) (Nat.le_refl _) (by simp) ?_; (case hd => rfl); (case hg => rfl); (case hr => first | (go_simp; done) | (go_simp; rfl)); (case hp => exact (Reps.one (show Kd.M (Kd.int .i64) _ _ _ a0_3 [.int .i64 a0_3] from rfl) (Reps.none _ _))); intro v279 w11 ho12 hb hg_ hnew_; clear hg_ hnew_; (first | rw [← Ny278.out] at ho12 | (simp only [Int.reduceToNat] at ho12; rw [← Ny278.out] at ho12)); have n0_ := Aside0.mk (Kd.R_lower ho12 (below_size (by repeat (first | (with_reducible first | exact HB.out | apply below_alloc | apply pw_below_drewN | apply below_drew1 | refine below_set ?_ GE277.out) | exact HB.out)))); have n1_ := Aside0.mk (blk_below (g := gb277) (o := .cells #[.slice A0_0 l0_0.length c0_0, .int .u8 a0_1, .int .i64 a0_2, .int .i64 a0_3, .int .i64 a0_4] 79 (0, 0)) (by (with_reducible repeat (first | refine blk_drewN ?_ _ | refine blk_drew ?_ | refine blk_alloc ?_ _)); exact BK277.out) hb); have n2_ := Aside0.mk (below_step (by repeat (first | (with_reducible first | exact HB.out | apply below_alloc | apply pw_below_drewN | apply below_drew1 | refine below_set ?_ GE277.out) | exact HB.out)) hb); clear BK277; clear HB; have HO280 := n0_; have BK277 := n1_; have HB := n2_; clear n0_ n1_ n2_; clear hb ho12))
        go_ret
        exact ⟨_, by first | rfl | (simp [errW_none, errW_some] <;> rfl) | (simp [*, errW_none, errW_some] <;> rfl), by (with_reducible repeat (first | apply Kd.R_alloc | apply Kd.R_drewN | apply Kd.R_drew)); exact HO280.out, by repeat (first | (with_reducible first | exact HB.out | apply below_alloc | apply pw_below_drewN | apply below_drew1 | refine below_set ?_ GE277.out) | exact HB.out)⟩
      · replace c9 := Bool.eq_false_iff.mpr c9
        subst c9
        have H1 : (if a0_1 = 2 then (some (([a0_3, a0_4] : List Int))) else (some ([] : List Int))) = some r := by rw [if_neg (show ¬ (false = true) by decide)] at H; exact H
        clear H
        have H := H1
        clear H1
        by_cases c13 : a0_1 = 2
        · rw [if_pos c13] at H
          have c13b0 : (a0_1 == 2) = true := beq_iff_eq.mpr c13
          have c13b1 : (a0_1 != 2) = false := bne_eq_false_iff_eq.mpr c13
          clear c13
          obtain ⟨y281, hy281⟩ : ∃ y_ : List Int, y_ = (([a0_3, a0_4] : List Int)) := ⟨_, rfl⟩
          replace H : (some y281) = some r := by first | (rw [hy281]; with_reducible exact H) | (have H2_ := (Option.bind_some _ _).symm.trans H; rw [hy281]; with_reducible exact H2_) | (have H2_ := (Option.bind_some _ _).symm.trans H; with_reducible exact H2_) | with_reducible exact H | (rw [hy281]; exact H) | exact H
          have Ny281 := Aside0.mk hy281
          clear hy281
          obtain rfl := Option.some.inj H
          have hcz14_0 : wc.cell? ⟨gb277, 0, none⟩ = some (.slice A0_0 l0_0.length c0_0) := (blk_cell BK277.out 0).trans rfl
          have hcz14_1 : wc.cell? ⟨gb277, 1, none⟩ = some (.int .u8 a0_1) := (blk_cell BK277.out 1).trans rfl
          have hcz14_2 : wc.cell? ⟨gb277, 2, none⟩ = some (.int .i64 a0_2) := (blk_cell BK277.out 2).trans rfl
          have hcz14_3 : wc.cell? ⟨gb277, 3, none⟩ = some (.int .i64 a0_3) := (blk_cell BK277.out 3).trans rfl
          have hcz14_4 : wc.cell? ⟨gb277, 4, none⟩ = some (.int .i64 a0_4) := (blk_cell BK277.out 4).trans rfl
          have hfz14_0 := blk_frozen BK277.out 0
          have hfz14_1 := blk_frozen BK277.out 1
          have hfz14_2 := blk_frozen BK277.out 2
          have hfz14_3 := blk_frozen BK277.out 3
          have hfz14_4 := blk_frozen BK277.out 4
          go_wp2_with (first | ((with_reducible refine gate_dst (N := 28) rfl ?_); refine Kd.R_lit (Kd.int .i64) _ 3 ?hg (N := 28) ?hd (xs := ([a0_3, a0_4] : List Int)) (inner := [.int .i64 a0_3, .int .i64 a0_4]) (ok := fun _ => True) (okp := fun _ => True) ?hr ?hp (fun _ hk => hk) trivial (Below.refl _ _) (Nat.le_refl _) (by simp) ?_; (case hd => rfl); (case hg => rfl); (case hr => first | (go_simp; done) | (go_simp; rfl)); (case hp => exact (Reps.one (show Kd.M (Kd.int .i64) _ _ _ a0_3 [.int .i64 a0_3] from rfl) (Reps.one (show Kd.M (Kd.int .i64) _ _ _ a0_4 [.int .i64 a0_4] from rfl) (Reps.none _ _)))); intro v282 w15 ho16 hb hg_ hnew_; clear hg_ hnew_; (first | rw [← Ny281.out] at ho16 | (simp only [Int.reduceToNat] at ho16; rw [← Ny281.out] at ho16)); have n0_ := Aside0.mk (Kd.R_lower ho16 (below_size (by repeat (first | (with_reducible first | exact HB.out | apply below_alloc | apply pw_below_drewN | apply below_drew1 | refine below_set ?_ GE277.out) | exact HB.out)))); have n1_ := Aside0.mk (blk_below (g := gb277) (o := .cells #[.slice A0_0 l0_0.length c0_0, .int .u8 a0_1, .int .i64 a0_2, .int .i64 a0_3, .int .i64 a0_4] 79 (0, 0)) (by (with_reducible repeat (first | refine blk_drewN ?_ _ | refine blk_drew ?_ | refine blk_alloc ?_ _)); exact BK277.out) hb); have n2_ := Aside0.mk (below_step (by repeat (first | (with_reducible first | exact HB.out | apply below_alloc | apply pw_below_drewN | apply below_drew1 | refine below_set ?_ GE277.out) | exact HB.out)) hb); clear BK277; clear HB; have HO283 := n0_; have BK277 := n1_; have HB := n2_; clear n0_ n1_ n2_; clear hb ho16))
          go_ret
          exact ⟨_, by first | rfl | (simp [errW_none, errW_some] <;> rfl) | (simp [*, errW_none, errW_some] <;> rfl), by (with_reducible repeat (first | apply Kd.R_alloc | apply Kd.R_drewN | apply Kd.R_drew)); exact HO283.out, by repeat (first | (with_reducible first | exact HB.out | apply below_alloc | apply pw_below_drewN | apply below_drew1 | refine below_set ?_ GE277.out) | exact HB.out)⟩
        · rw [if_neg c13] at H
          have c13b0 : (a0_1 == 2) = false := beq_eq_false_iff_ne.mpr c13
          have c13b1 : (a0_1 != 2) = true := bne_iff_ne.mpr c13
          obtain rfl := Option.some.inj H
          have hcz17_0 : wc.cell? ⟨gb277, 0, none⟩ = some (.slice A0_0 l0_0.length c0_0) := (blk_cell BK277.out 0).trans rfl
          have hcz17_1 : wc.cell? ⟨gb277, 1, none⟩ = some (.int .u8 a0_1) := (blk_cell BK277.out 1).trans rfl
          have hcz17_2 : wc.cell? ⟨gb277, 2, none⟩ = some (.int .i64 a0_2) := (blk_cell BK277.out 2).trans rfl
          have hcz17_3 : wc.cell? ⟨gb277, 3, none⟩ = some (.int .i64 a0_3) := (blk_cell BK277.out 3).trans rfl
          have hcz17_4 : wc.cell? ⟨gb277, 4, none⟩ = some (.int .i64 a0_4) := (blk_cell BK277.out 4).trans rfl
          have hfz17_0 := blk_frozen BK277.out 0
          have hfz17_1 := blk_frozen BK277.out 1
          have hfz17_2 := blk_frozen BK277.out 2
          have hfz17_3 := blk_frozen BK277.out 3
          have hfz17_4 := blk_frozen BK277.out 4
          go_wp2
          go_ret
          exact ⟨_, by first | rfl | (simp [errW_none, errW_some] <;> rfl) | (simp [*, errW_none, errW_some] <;> rfl), by first | exact Kd.R_nil _ _ _ _ _ | exact Kd.N_nil _ _ _ _ _ | exact Kd.V_nil _ _ _ _ _ | exact Kd.Q_nil _ _ _ _ _ | exact Kd.S_nil _ _ _ _ _, by repeat (first | (with_reducible first | exact HB.out | apply below_alloc | apply pw_below_drewN | apply below_drew1 | refine below_set ?_ GE277.out) | exact HB.out)⟩
end Go.Proofs.Ythgodpmahdnnjaa.H
end
