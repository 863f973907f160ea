/- Texts of this claim, joined by a program (part 2); what nothing uses is left out. -/
import Derived.Test.YthgodpmahdnnjaaQ1
section
namespace Go.Proofs.Ythgodpmahdnnjaa.H
open Go.RowKit Go.Proofs.YthgodpmahdnnjaaW.PrintWords Go.Proofs.YthgodpmahdnnjaaW.PrintLast Go.Proofs.YthgodpmahdnnjaaW.PrintMore
set_option linter.unusedVariables false
set_option linter.unusedSimpArgs false
def ontimeref17_Uses.j0 : Nat → ByteArray → List Int → Bool → Int → Int → Int → Int → Int → ByteArray → Option (List Int)
  | 0, _, _, _, _, _, _, _, _, _ => none
  | k + 1, x3, x4, x14, x264000, x264001, x264002, x264003, x264004, x264005 => if x14 = true then (if x4.length < 17592186044416 then ((some (x4 ++ [x264002] : List Int)).bind fun y266 => ((ontimeref17_has.f k x3 121).bind fun t269 => (if t269 = true then (if y266.length < 17592186044416 then (some (y266 ++ [x264003])) else (none)) else (some y266)))) else (none)) else ((ontimeref17_has.f k x3 121).bind fun t273 => (if t273 = true then (if x4.length < 17592186044416 then (some (x4 ++ [x264003])) else (none)) else (some x4)))
def ontimeref17_Uses.f (k : Nat) (a0_0 : Int) (a0_1 : Int) (a0_2 : Int) (a0_3 : Int) (a0_4 : Int) (a0_5 : ByteArray) : Option (List Int) := (ontimeref17_Shape.f a0_0).bind fun t264 => ((ontimeref17_has.f k t264 120).bind fun t265 => (if t265 = true then (ontimeref17_Uses.j0 k t264 ([] : List Int) (a0_0 != 16) a0_0 a0_1 a0_2 a0_3 a0_4 a0_5) else (ontimeref17_Uses.j0 k t264 ([] : List Int) false a0_0 a0_1 a0_2 a0_3 a0_4 a0_5)))
theorem ontimeref17_Uses.mono_l : ∀ k, (∀ y0 y1 y2 y3 y4 y5 y6 y7 y8, LeO (ontimeref17_Uses.j0 k y0 y1 y2 y3 y4 y5 y6 y7 y8) (ontimeref17_Uses.j0 (k + 1) y0 y1 y2 y3 y4 y5 y6 y7 y8))
  | 0 => fun _ _ _ _ _ _ _ _ _ r h => by simp [ontimeref17_Uses.j0] at h
  | k + 1 => by
    have ih0 := ontimeref17_Uses.mono_l k
    · intro y0 y1 y2 y3 y4 y5 y6 y7 y8
      unfold ontimeref17_Uses.j0
      repeat' first
      | (with_reducible exact ih0 _ _ _ _ _ _ _ _ _)
      | (with_reducible exact ontimeref17_has.mono _ _ _)
      | (with_reducible exact LeO.refl _)
      | (with_reducible exact LeO.none _)
      | (with_reducible refine LeO.ite ?_ ?_)
      | (with_reducible refine LeO.bind ?_ (fun _ => ?_))
      | exact ih0 _ _ _ _ _ _ _ _ _
      | exact ontimeref17_has.mono _ _ _
      | exact LeO.none _
      | refine LeO.ite ?_ ?_
      | refine LeO.bind ?_ (fun _ => ?_)
theorem ontimeref17_Uses.mono : ∀ a0 a1 a2 a3 a4 a5 k, LeO (ontimeref17_Uses.f k a0 a1 a2 a3 a4 a5) (ontimeref17_Uses.f (k + 1) a0 a1 a2 a3 a4 a5) := by
  intro a0 a1 a2 a3 a4 a5 k
  have ih0 := ontimeref17_Uses.mono_l k
  unfold ontimeref17_Uses.f
  repeat' first
      | (with_reducible exact ih0 _ _ _ _ _ _ _ _ _)
      | (with_reducible exact ontimeref17_has.mono _ _ _)
      | (with_reducible exact LeO.refl _)
      | (with_reducible exact LeO.none _)
      | (with_reducible refine LeO.ite ?_ ?_)
      | (with_reducible refine LeO.bind ?_ (fun _ => ?_))
      | exact ih0 _ _ _ _ _ _ _ _ _
      | exact ontimeref17_has.mono _ _ _
      | exact LeO.none _
      | refine LeO.ite ?_ ?_
      | refine LeO.bind ?_ (fun _ => ?_)
set_option maxHeartbeats 8000000 in
set_option maxRecDepth 100000 in
theorem ontimeref17_Uses.calls (k : Nat) (a0_0 : Int) (a0_1 : Int) (a0_2 : Int) (a0_3 : Int) (a0_4 : Int) (a0_5 : ByteArray) (r : List Int) (w : World) (h : ontimeref17_Uses.f k a0_0 a0_1 a0_2 a0_3 a0_4 a0_5 = some r) :
    Calls Try.prog 65 #[.agg #[.int .u8 a0_0, .int .i64 a0_1, .int .i64 a0_2, .int .i64 a0_3, .int .i64 a0_4, .string a0_5]] w fun e w' => ∃ v0_ : Value, e = .returned (v0_) ∧ Kd.R (Kd.int .i64) 3 w' w.heap.size (fun _ => True) v0_ r ∧ Below w.heap.size w w' := by
  have hu80 := Try.underlying80
  have HB := Aside0.mk (Below.refl w.heap.size w)
  have H : ((ontimeref17_Shape.f a0_0).bind fun t264 => ((ontimeref17_has.f k t264 120).bind fun t265 => (if t265 = true then (ontimeref17_Uses.j0 k t264 ([] : List Int) (a0_0 != 16) a0_0 a0_1 a0_2 a0_3 a0_4 a0_5) else (ontimeref17_Uses.j0 k t264 ([] : List Int) false a0_0 a0_1 a0_2 a0_3 a0_4 a0_5)))) = some r := h
  clear h
  replace H := Option.bind_eq_some_iff.mp H
  obtain ⟨t264, A20, H⟩ := H
  replace H : ((ontimeref17_has.f k t264 120).bind fun t265 => (if t265 = true then (ontimeref17_Uses.j0 k t264 ([] : List Int) (a0_0 != 16) a0_0 a0_1 a0_2 a0_3 a0_4 a0_5) else (ontimeref17_Uses.j0 k t264 ([] : List Int) false a0_0 a0_1 a0_2 a0_3 a0_4 a0_5))) = some r := H
  have A2 := Aside0.mk A20
  clear A20
  have HC3 := Aside0.mk H
  clear H
  go_enter Try.func65, Try.ntmps65
  go_upto_region 3 with (first | ((with_reducible refine gate_dst (N := 1) rfl ?_); refine box_event ?hg (N := 1) ?hd (cs := #[.int .u8 a0_0, .int .i64 a0_1, .int .i64 a0_2, .int .i64 a0_3, .int .i64 a0_4, .string a0_5]) (t := 80) ?hr ?_; (case hd => rfl); (case hg => rfl); (case hr => first | (go_simp; done) | (go_simp; rfl)); intro gb263 hg w4 hbox hb; have n0_ := Aside0.mk (below_step (by repeat (first | (with_reducible first | exact HB.out | apply below_alloc | apply pw_below_drewN | apply below_drew1) | exact HB.out)) hb); have n1_ := Aside0.mk (hbox); have n2_ := Aside0.mk ((by rw [hg]; exact (below_size (by repeat (first | (with_reducible first | exact HB.out | apply below_alloc | apply pw_below_drewN | apply below_drew1) | exact HB.out))) : w.heap.size ≤ gb263)); have n3_ := Aside0.mk ((by rw [hg]; exact (below_size (by repeat (first | (with_reducible first | exact HB.out | apply below_alloc | apply pw_below_drewN | apply below_drew1) | exact HB.out))) : w.heap.size ≤ gb263)); clear HB; have HB := n0_; have BK263 := n1_; have GW263 := n2_; have GE263 := n3_; clear n0_ n1_ n2_ n3_; clear hb hbox hg; have hcz5_0 : w4.cell? ⟨gb263, 0, none⟩ = some (.int .u8 a0_0) := (blk_cell BK263.out 0).trans rfl; have hcz5_1 : w4.cell? ⟨gb263, 1, none⟩ = some (.int .i64 a0_1) := (blk_cell BK263.out 1).trans rfl; have hcz5_2 : w4.cell? ⟨gb263, 2, none⟩ = some (.int .i64 a0_2) := (blk_cell BK263.out 2).trans rfl; have hcz5_3 : w4.cell? ⟨gb263, 3, none⟩ = some (.int .i64 a0_3) := (blk_cell BK263.out 3).trans rfl; have hcz5_4 : w4.cell? ⟨gb263, 4, none⟩ = some (.int .i64 a0_4) := (blk_cell BK263.out 4).trans rfl; have hcz5_5 : w4.cell? ⟨gb263, 5, none⟩ = some (.string a0_5) := (blk_cell BK263.out 5).trans rfl; have hfz5_0 := blk_frozen BK263.out 0; have hfz5_1 := blk_frozen BK263.out 1; have hfz5_2 := blk_frozen BK263.out 2; have hfz5_3 := blk_frozen BK263.out 3; have hfz5_4 := blk_frozen BK263.out 4; have hfz5_5 := blk_frozen BK263.out 5) | ((with_reducible refine gate_callee (f := 73) rfl ?_); refine goesL_ (some 7) rfl rfl Try.func73 (by kernel_rfl) rfl #[.int .u8 a0_0] rfl (by (try simp only [List.map_toArray, List.map_cons, List.map_nil]); first | done | rfl | (simp only [List.length_drop, List.length_take]; rfl)) ?_; (with_reducible refine (ontimeref17_Shape.calls a0_0 t264 _ A2.out).mono ?_); rintro e w6 ⟨rfl, hb⟩; refine ⟨_, rfl, ?_⟩; have n0_ := Aside0.mk (blk_below (g := gb263) (o := .cells #[.int .u8 a0_0, .int .i64 a0_1, .int .i64 a0_2, .int .i64 a0_3, .int .i64 a0_4, .string a0_5] 80 (0, 0)) (by (with_reducible repeat (first | refine blk_drewN ?_ _ | refine blk_drew ?_ | refine blk_alloc ?_ _)); exact BK263.out) hb); have n1_ := Aside0.mk (below_step (by repeat (first | (with_reducible first | exact HB.out | apply below_alloc | apply pw_below_drewN | apply below_drew1 | refine below_set ?_ GE263.out) | exact HB.out)) hb); clear BK263; clear HB; have BK263 := n0_; have HB := n1_; clear n0_ n1_; (try clear hb); (try clear hb2); (try clear hk); (try clear hi)))
  (try simp only [Act.put, List.setIfInBounds_toArray, List.set_cons_zero, List.set_cons_succ])
  go_cut [14] (fun v14 wc => ∃ (kq : Nat) (x14_2 : Bool), v14 = .bool x14_2 ∧ Aside0 (ontimeref17_Uses.j0 kq t264 ([] : List Int) x14_2 a0_0 a0_1 a0_2 a0_3 a0_4 a0_5 = some r) ∧ Aside0 (kq ≤ k) ∧ Aside0 (Kd.R (Kd.int .i64) 3 wc w.heap.size (fun _ => True) (.slice none 0 0) ([] : List Int)) ∧ Aside0 (wc.heap[gb263]? = some (.cells #[.int .u8 a0_0, .int .i64 a0_1, .int .i64 a0_2, .int .i64 a0_3, .int .i64 a0_4, .string a0_5] 80 (0, 0))) ∧ Aside0 (Below w.heap.size w wc))
  case first =>
    have H := HC3.out
    clear HC3
    replace H := Option.bind_eq_some_iff.mp H
    obtain ⟨t265, A70, H⟩ := H
    replace H : (if t265 = true then (ontimeref17_Uses.j0 k t264 ([] : List Int) (a0_0 != 16) a0_0 a0_1 a0_2 a0_3 a0_4 a0_5) else (ontimeref17_Uses.j0 k t264 ([] : List Int) false a0_0 a0_1 a0_2 a0_3 a0_4 a0_5)) = some r := H
    have A7 := Aside0.mk A70
    clear A70
    by_cases c8 : t265 = true
    · subst c8
      have H1 : (ontimeref17_Uses.j0 k t264 ([] : List Int) (a0_0 != 16) a0_0 a0_1 a0_2 a0_3 a0_4 a0_5) = some r := by rw [if_pos rfl] at H; exact H
      clear H
      have H := H1
      clear H1
      have H' := Aside0.mk H
      clear H
      go_wp2_with (first | ((with_reducible refine gate_callee (f := 72) rfl ?_); refine goesL_ (some 9) rfl rfl Try.func72 (by kernel_rfl) rfl #[.string t264, .int .u8 120] rfl (by (try simp only [List.map_toArray, List.map_cons, List.map_nil]); first | done | rfl | (simp only [List.length_drop, List.length_take]; rfl)) ?_; (with_reducible refine (ontimeref17_has.calls k t264 120 true _ A7.out).mono ?_); rintro e w' ⟨rfl, ⟨nd, rfl⟩⟩; refine ⟨_, rfl, ?_⟩; have hcz9_0 : w6.cell? ⟨gb263, 0, none⟩ = some (.int .u8 a0_0) := (blk_cell BK263.out 0).trans rfl; have hcz9_1 : w6.cell? ⟨gb263, 1, none⟩ = some (.int .i64 a0_1) := (blk_cell BK263.out 1).trans rfl; have hcz9_2 : w6.cell? ⟨gb263, 2, none⟩ = some (.int .i64 a0_2) := (blk_cell BK263.out 2).trans rfl; have hcz9_3 : w6.cell? ⟨gb263, 3, none⟩ = some (.int .i64 a0_3) := (blk_cell BK263.out 3).trans rfl; have hcz9_4 : w6.cell? ⟨gb263, 4, none⟩ = some (.int .i64 a0_4) := (blk_cell BK263.out 4).trans rfl; have hcz9_5 : w6.cell? ⟨gb263, 5, none⟩ = some (.string a0_5) := (blk_cell BK263.out 5).trans rfl; have hfz9_0 := blk_frozen BK263.out 0; have hfz9_1 := blk_frozen BK263.out 1; have hfz9_2 := blk_frozen BK263.out 2; have hfz9_3 := blk_frozen BK263.out 3; have hfz9_4 := blk_frozen BK263.out 4; have hfz9_5 := blk_frozen BK263.out 5))
      go_meet
      case rel => exact ⟨_, ((a0_0 != 16)), (by first | rfl | (simp; done) | (simp [*]; done)), H', ⟨by first | omega | exact Nat.le_refl _⟩, ⟨by first | exact Kd.R_nil _ _ _ _ _ | exact Kd.N_nil _ _ _ _ _ | exact Kd.V_nil _ _ _ _ _ | exact Kd.Q_nil _ _ _ _ _ | exact Kd.S_nil _ _ _ _ _⟩, ⟨by (with_reducible repeat (first | refine blk_drewN ?_ _ | refine blk_drew ?_ | refine blk_alloc ?_ _)); exact BK263.out⟩, ⟨by repeat (first | (with_reducible first | exact HB.out | apply below_alloc | apply pw_below_drewN | apply below_drew1 | refine below_set ?_ GE263.out) | exact HB.out)⟩⟩
    · replace c8 := Bool.eq_false_iff.mpr c8
      subst c8
      have H1 : (ontimeref17_Uses.j0 k t264 ([] : List Int) false a0_0 a0_1 a0_2 a0_3 a0_4 a0_5) = some r := by rw [if_neg (show ¬ (false = true) by decide)] at H; exact H
      clear H
      have H := H1
      clear H1
      have H' := Aside0.mk H
      clear H
      go_wp2_with (first | ((with_reducible refine gate_callee (f := 72) rfl ?_); refine goesL_ (some 9) rfl rfl Try.func72 (by kernel_rfl) rfl #[.string t264, .int .u8 120] rfl (by (try simp only [List.map_toArray, List.map_cons, List.map_nil]); first | done | rfl | (simp only [List.length_drop, List.length_take]; rfl)) ?_; (with_reducible refine (ontimeref17_has.calls k t264 120 false _ A7.out).mono ?_); rintro e w' ⟨rfl, ⟨nd, rfl⟩⟩; refine ⟨_, rfl, ?_⟩))
      go_meet
      case rel => exact ⟨_, (false), (by first | rfl | (simp; done) | (simp [*]; done)), H', ⟨by first | omega | exact Nat.le_refl _⟩, ⟨by first | exact Kd.R_nil _ _ _ _ _ | exact Kd.N_nil _ _ _ _ _ | exact Kd.V_nil _ _ _ _ _ | exact Kd.Q_nil _ _ _ _ _ | exact Kd.S_nil _ _ _ _ _⟩, ⟨by (with_reducible repeat (first | refine blk_drewN ?_ _ | refine blk_drew ?_ | refine blk_alloc ?_ _)); exact BK263.out⟩, ⟨by repeat (first | (with_reducible first | exact HB.out | apply below_alloc | apply pw_below_drewN | apply below_drew1 | refine below_set ?_ GE263.out) | exact HB.out)⟩⟩
  case rest =>
    clear HC3
    try clear p2
    try clear c6
    try clear c7
    try clear c8
    try clear hcz5_0
    try clear hcz5_1
    try clear hcz5_2
    try clear hcz5_3
    try clear hcz5_4
    try clear hcz5_5
    try clear hcz9_0
    try clear hcz9_1
    try clear hcz9_2
    try clear hcz9_3
    try clear hcz9_4
    try clear hcz9_5
    try clear hfz5_0
    try clear hfz5_1
    try clear hfz5_2
    try clear hfz5_3
    try clear hfz5_4
    try clear hfz5_5
    try clear hfz9_0
    try clear hfz9_1
    try clear hfz9_2
    try clear hfz9_3
    try clear hfz9_4
    try clear hfz9_5
    obtain ⟨kq, x14_2, rfl, HA, HJ2, HO_4, BK263, HB⟩ := hcut
    cases kq with
    | zero => exact absurd HA.out (by simp [ontimeref17_Uses.j0])
    | succ kj2 =>
      have H := HA.out
      clear HA
      simp only [ontimeref17_Uses.j0] at H
      by_cases c10 : x14_2 = true
      · subst c10
        have H1 : (if ([] : List Int).length < 17592186044416 then ((some (([] : List Int) ++ [a0_2] : List Int)).bind fun y266 => ((ontimeref17_has.f kj2 t264 121).bind fun t269 => (if t269 = true then (if y266.length < 17592186044416 then (some (y266 ++ [a0_3])) else (none)) else (some y266)))) else (none)) = some r := by rw [if_pos rfl] at H; exact H
        clear H
        have H := H1
        clear H1
        by_cases c11 : ([] : List Int).length < 17592186044416
        · rw [if_pos c11] at H
          have LMc11 := Aside0.mk c11
          clear c11
          obtain ⟨y266, hy266⟩ : ∃ y_ : List Int, y_ = (([] : List Int) ++ [a0_2]) := ⟨_, rfl⟩
          replace H : ((ontimeref17_has.f kj2 t264 121).bind fun t269 => (if t269 = true then (if y266.length < 17592186044416 then (some (y266 ++ [a0_3])) else (none)) else (some y266))) = some r := by first | (rw [hy266]; with_reducible exact H) | (have H2_ := (Option.bind_some _ _).symm.trans H; rw [hy266]; with_reducible exact H2_) | (have H2_ := (Option.bind_some _ _).symm.trans H; with_reducible exact H2_) | with_reducible exact H | (rw [hy266]; exact H) | exact H
          have Ny266 := Aside0.mk hy266
          clear hy266
          replace H := Option.bind_eq_some_iff.mp H
          obtain ⟨t269, A120, H⟩ := H
          replace H : (if t269 = true then (if y266.length < 17592186044416 then (some (y266 ++ [a0_3])) else (none)) else (some y266)) = some r := H
          have A12 := Aside0.mk A120
          clear A120
          by_cases c13 : t269 = true
          · subst c13
            have H1 : (if y266.length < 17592186044416 then (some (y266 ++ [a0_3])) else (none)) = some r := by rw [if_pos rfl] at H; exact H
            clear H
            have H := H1
            clear H1
            by_cases c14 : y266.length < 17592186044416
            · rw [if_pos c14] at H
              have LMc14 := Aside0.mk c14
              clear c14
              obtain ⟨y270, hy270⟩ : ∃ y_ : List Int, y_ = (y266 ++ [a0_3]) := ⟨_, rfl⟩
              replace H : (some y270) = some r := by first | (rw [hy270]; with_reducible exact H) | (have H2_ := (Option.bind_some _ _).symm.trans H; rw [hy270]; with_reducible exact H2_) | (have H2_ := (Option.bind_some _ _).symm.trans H; with_reducible exact H2_) | with_reducible exact H | (rw [hy270]; exact H) | exact H
              have Ny270 := Aside0.mk hy270
              clear hy270
              obtain rfl := Option.some.inj H
              have hcz15_0 : wc.cell? ⟨gb263, 0, none⟩ = some (.int .u8 a0_0) := (blk_cell BK263.out 0).trans rfl
              have hcz15_1 : wc.cell? ⟨gb263, 1, none⟩ = some (.int .i64 a0_1) := (blk_cell BK263.out 1).trans rfl
              have hcz15_2 : wc.cell? ⟨gb263, 2, none⟩ = some (.int .i64 a0_2) := (blk_cell BK263.out 2).trans rfl
              have hcz15_3 : wc.cell? ⟨gb263, 3, none⟩ = some (.int .i64 a0_3) := (blk_cell BK263.out 3).trans rfl
              have hcz15_4 : wc.cell? ⟨gb263, 4, none⟩ = some (.int .i64 a0_4) := (blk_cell BK263.out 4).trans rfl
              have hcz15_5 : wc.cell? ⟨gb263, 5, none⟩ = some (.string a0_5) := (blk_cell BK263.out 5).trans rfl
              have hfz15_0 := blk_frozen BK263.out 0
              have hfz15_1 := blk_frozen BK263.out 1
              have hfz15_2 := blk_frozen BK263.out 2
              have hfz15_3 := blk_frozen BK263.out 3
              have hfz15_4 := blk_frozen BK263.out 4
              have hfz15_5 := blk_frozen BK263.out 5
              go_wp2_with (first | ((with_reducible refine gate_builtin (b := .append) (xs := #[.tmp 15, .tmp 18]) rfl ?_); at_builtin; refine Kd.R_append (Kd.int .i64) (w0 := w) w.heap.size rfl (.tmp 15) (.tmp 18) 39 3 (.int .i64 0) 8 rfl Try.underlying39 info3 rfl (by decide) (by omega) (.slice none 0 0) ([] : List Int) a0_2 [.int .i64 a0_2] (fun _ => True) (fun _ => False) rfl rfl ?aP (fun _ hk => hk.elim) ?aF ?aO ?aB ?aS ?aL ?_; (case aP => exact rfl); (case aB => exact (by repeat (first | (with_reducible first | exact HB.out | apply below_alloc | apply pw_below_drewN | apply below_drew1 | refine below_set ?_ GE263.out) | exact HB.out))); (case aF => exact (fun _ _ => trivial)); (case aO => exact (by (with_reducible repeat (first | apply Kd.R_alloc | apply Kd.R_drewN | apply Kd.R_drew)); exact HO_4.out)); (case aS => exact (below_size (by repeat (first | (with_reducible first | exact HB.out | apply below_alloc | apply pw_below_drewN | apply below_drew1 | refine below_set ?_ GE263.out) | exact HB.out)))); (case aL => have := LMc11.out; omega); intro v267 w16 ho hb hg hat; rw [← Ny266.out] at ho; have n0_ := Aside0.mk (blk_grown (g := gb263) (o := .cells #[.int .u8 a0_0, .int .i64 a0_1, .int .i64 a0_2, .int .i64 a0_3, .int .i64 a0_4, .string a0_5] 80 (0, 0)) (by (with_reducible repeat (first | refine blk_drewN ?_ _ | refine blk_drew ?_ | refine blk_alloc ?_ _)); exact BK263.out) hg (Kd.R_ne HO_4.out BK263.out (by decide))); have n1_ := Aside0.mk (hb); have n2_ := Aside0.mk (ho); clear BK263; clear HB; clear HO_4; have BK263 := n0_; have HB := n1_; have HO268 := n2_; clear n0_ n1_ n2_; clear ho hb hg hat) | ((with_reducible refine gate_callee (f := 72) rfl ?_); refine goesL_ (some 21) rfl rfl Try.func72 (by kernel_rfl) rfl #[.string t264, .int .u8 121] rfl (by (try simp only [List.map_toArray, List.map_cons, List.map_nil]); first | done | rfl | (simp only [List.length_drop, List.length_take]; rfl)) ?_; (with_reducible refine (ontimeref17_has.calls kj2 t264 121 true _ A12.out).mono ?_); rintro e w' ⟨rfl, ⟨nd, rfl⟩⟩; refine ⟨_, rfl, ?_⟩; have hcz17_0 : w16.cell? ⟨gb263, 0, none⟩ = some (.int .u8 a0_0) := (blk_cell BK263.out 0).trans rfl; have hcz17_1 : w16.cell? ⟨gb263, 1, none⟩ = some (.int .i64 a0_1) := (blk_cell BK263.out 1).trans rfl; have hcz17_2 : w16.cell? ⟨gb263, 2, none⟩ = some (.int .i64 a0_2) := (blk_cell BK263.out 2).trans rfl; have hcz17_3 : w16.cell? ⟨gb263, 3, none⟩ = some (.int .i64 a0_3) := (blk_cell BK263.out 3).trans rfl; have hcz17_4 : w16.cell? ⟨gb263, 4, none⟩ = some (.int .i64 a0_4) := (blk_cell BK263.out 4).trans rfl; have hcz17_5 : w16.cell? ⟨gb263, 5, none⟩ = some (.string a0_5) := (blk_cell BK263.out 5).trans rfl; have hfz17_0 := blk_frozen BK263.out 0; have hfz17_1 := blk_frozen BK263.out 1; have hfz17_2 := blk_frozen BK263.out 2; have hfz17_3 := blk_frozen BK263.out 3; have hfz17_4 := blk_frozen BK263.out 4; have hfz17_5 := blk_frozen BK263.out 5) | ((with_reducible refine gate_builtin (b := .append) (xs := #[.tmp 22, .tmp 25]) rfl ?_); at_builtin; refine Kd.R_append (Kd.int .i64) (w0 := w) w.heap.size rfl (.tmp 22) (.tmp 25) 39 3 (.int .i64 0) 8 rfl Try.underlying39 info3 rfl (by decide) (by omega) v267 y266 a0_3 [.int .i64 a0_3] (fun _ => True) (fun _ => False) rfl rfl ?aP (fun _ hk => hk.elim) ?aF ?aO ?aB ?aS ?aL ?_; (case aP => exact rfl); (case aB => exact (by repeat (first | (with_reducible first | exact HB.out | apply below_alloc | apply pw_below_drewN | apply below_drew1 | refine below_set ?_ GE263.out) | exact HB.out))); (case aF => exact (fun _ _ => trivial)); (case aO => exact (by (with_reducible repeat (first | apply Kd.R_alloc | apply Kd.R_drewN | apply Kd.R_drew)); exact HO268.out)); (case aS => exact (below_size (by repeat (first | (with_reducible first | exact HB.out | apply below_alloc | apply pw_below_drewN | apply below_drew1 | refine below_set ?_ GE263.out) | exact HB.out)))); (case aL => have := LMc14.out; omega); intro v271 w18 ho hb hg hat; rw [← Ny270.out] at ho; have n0_ := Aside0.mk (blk_grown (g := gb263) (o := .cells #[.int .u8 a0_0, .int .i64 a0_1, .int .i64 a0_2, .int .i64 a0_3, .int .i64 a0_4, .string a0_5] 80 (0, 0)) (by (with_reducible repeat (first | refine blk_drewN ?_ _ | refine blk_drew ?_ | refine blk_alloc ?_ _)); exact BK263.out) hg (Kd.R_ne HO268.out BK263.out (by decide))); have n1_ := Aside0.mk (hb); have n2_ := Aside0.mk (ho); clear BK263; clear HB; clear HO268; have BK263 := n0_; have HB := n1_; have HO272 := n2_; clear n0_ n1_ n2_; clear ho hb hg hat))
              go_ret
              exact ⟨_, by first | rfl | (simp [errW_none, errW_some] <;> rfl) | (simp [*, errW_none, errW_some] <;> rfl), by (with_reducible repeat (first | apply Kd.R_alloc | apply Kd.R_drewN | apply Kd.R_drew)); exact HO272.out, by repeat (first | (with_reducible first | exact HB.out | apply below_alloc | apply pw_below_drewN | apply below_drew1 | refine below_set ?_ GE263.out) | exact HB.out)⟩
            · rw [if_neg c14] at H
              exact absurd H (by simp)
          · replace c13 := Bool.eq_false_iff.mpr c13
            subst c13
            have H1 : (some y266) = some r := by rw [if_neg (show ¬ (false = true) by decide)] at H; exact H
            clear H
            have H := H1
            clear H1
            obtain rfl := Option.some.inj H
            have hcz19_0 : wc.cell? ⟨gb263, 0, none⟩ = some (.int .u8 a0_0) := (blk_cell BK263.out 0).trans rfl
            have hcz19_1 : wc.cell? ⟨gb263, 1, none⟩ = some (.int .i64 a0_1) := (blk_cell BK263.out 1).trans rfl
            have hcz19_2 : wc.cell? ⟨gb263, 2, none⟩ = some (.int .i64 a0_2) := (blk_cell BK263.out 2).trans rfl
            have hcz19_3 : wc.cell? ⟨gb263, 3, none⟩ = some (.int .i64 a0_3) := (blk_cell BK263.out 3).trans rfl
            have hcz19_4 : wc.cell? ⟨gb263, 4, none⟩ = some (.int .i64 a0_4) := (blk_cell BK263.out 4).trans rfl
            have hcz19_5 : wc.cell? ⟨gb263, 5, none⟩ = some (.string a0_5) := (blk_cell BK263.out 5).trans rfl
            have hfz19_0 := blk_frozen BK263.out 0
            have hfz19_1 := blk_frozen BK263.out 1
            have hfz19_2 := blk_frozen BK263.out 2
            have hfz19_3 := blk_frozen BK263.out 3
            have hfz19_4 := blk_frozen BK263.out 4
            have hfz19_5 := blk_frozen BK263.out 5
            go_wp2_with (first | ((with_reducible refine gate_builtin (b := .append) (xs := #[.tmp 15, .tmp 18]) rfl ?_); at_builtin; refine Kd.R_append (Kd.int .i64) (w0 := w) w.heap.size rfl (.tmp 15) (.tmp 18) 39 3 (.int .i64 0) 8 rfl Try.underlying39 info3 rfl (by decide) (by omega) (.slice none 0 0) ([] : List Int) a0_2 [.int .i64 a0_2] (fun _ => True) (fun _ => False) rfl rfl ?aP (fun _ hk => hk.elim) ?aF ?aO ?aB ?aS ?aL ?_; (case aP => exact rfl); (case aB => exact (by repeat (first | (with_reducible first | exact HB.out | apply below_alloc | apply pw_below_drewN | apply below_drew1 | refine below_set ?_ GE263.out) | exact HB.out))); (case aF => exact (fun _ _ => trivial)); (case aO => exact (by (with_reducible repeat (first | apply Kd.R_alloc | apply Kd.R_drewN | apply Kd.R_drew)); exact HO_4.out)); (case aS => exact (below_size (by repeat (first | (with_reducible first | exact HB.out | apply below_alloc | apply pw_below_drewN | apply below_drew1 | refine below_set ?_ GE263.out) | exact HB.out)))); (case aL => have := LMc11.out; omega); intro v267 w20 ho hb hg hat; rw [← Ny266.out] at ho; have n0_ := Aside0.mk (blk_grown (g := gb263) (o := .cells #[.int .u8 a0_0, .int .i64 a0_1, .int .i64 a0_2, .int .i64 a0_3, .int .i64 a0_4, .string a0_5] 80 (0, 0)) (by (with_reducible repeat (first | refine blk_drewN ?_ _ | refine blk_drew ?_ | refine blk_alloc ?_ _)); exact BK263.out) hg (Kd.R_ne HO_4.out BK263.out (by decide))); have n1_ := Aside0.mk (hb); have n2_ := Aside0.mk (ho); clear BK263; clear HB; clear HO_4; have BK263 := n0_; have HB := n1_; have HO268 := n2_; clear n0_ n1_ n2_; clear ho hb hg hat) | ((with_reducible refine gate_callee (f := 72) rfl ?_); refine goesL_ (some 21) rfl rfl Try.func72 (by kernel_rfl) rfl #[.string t264, .int .u8 121] rfl (by (try simp only [List.map_toArray, List.map_cons, List.map_nil]); first | done | rfl | (simp only [List.length_drop, List.length_take]; rfl)) ?_; (with_reducible refine (ontimeref17_has.calls kj2 t264 121 false _ A12.out).mono ?_); rintro e w' ⟨rfl, ⟨nd, rfl⟩⟩; refine ⟨_, rfl, ?_⟩))
            go_ret
            exact ⟨_, by first | rfl | (simp [errW_none, errW_some] <;> rfl) | (simp [*, errW_none, errW_some] <;> rfl), by (with_reducible repeat (first | apply Kd.R_alloc | apply Kd.R_drewN | apply Kd.R_drew)); exact HO268.out, by repeat (first | (with_reducible first | exact HB.out | apply below_alloc | apply pw_below_drewN | apply below_drew1 | refine below_set ?_ GE263.out) | exact HB.out)⟩
        · rw [if_neg c11] at H
          exact absurd H (by simp)
      · replace c10 := Bool.eq_false_iff.mpr c10
        subst c10
        have H1 : ((ontimeref17_has.f kj2 t264 121).bind fun t273 => (if t273 = true then (if ([] : List Int).length < 17592186044416 then (some (([] : List Int) ++ [a0_3])) else (none)) else (some ([] : List Int)))) = some r := by rw [if_neg (show ¬ (false = true) by decide)] at H; exact H
        clear H
        have H := H1
        clear H1
        replace H := Option.bind_eq_some_iff.mp H
        obtain ⟨t273, A210, H⟩ := H
        replace H : (if t273 = true then (if ([] : List Int).length < 17592186044416 then (some (([] : List Int) ++ [a0_3])) else (none)) else (some ([] : List Int))) = some r := H
        have A21 := Aside0.mk A210
        clear A210
        by_cases c22 : t273 = true
        · subst c22
          have H1 : (if ([] : List Int).length < 17592186044416 then (some (([] : List Int) ++ [a0_3])) else (none)) = some r := by rw [if_pos rfl] at H; exact H
          clear H
          have H := H1
          clear H1
          by_cases c23 : ([] : List Int).length < 17592186044416
          · rw [if_pos c23] at H
            have LMc23 := Aside0.mk c23
            clear c23
            obtain ⟨y274, hy274⟩ : ∃ y_ : List Int, y_ = (([] : List Int) ++ [a0_3]) := ⟨_, rfl⟩
            replace H : (some y274) = some r := by first | (rw [hy274]; with_reducible exact H) | (have H2_ := (Option.bind_some _ _).symm.trans H; rw [hy274]; with_reducible exact H2_) | (have H2_ := (Option.bind_some _ _).symm.trans H; with_reducible exact H2_) | with_reducible exact H | (rw [hy274]; exact H) | exact H
            have Ny274 := Aside0.mk hy274
            clear hy274
            obtain rfl := Option.some.inj H
            go_wp2_with (first | ((with_reducible refine gate_callee (f := 72) rfl ?_); refine goesL_ (some 21) rfl rfl Try.func72 (by kernel_rfl) rfl #[.string t264, .int .u8 121] rfl (by (try simp only [List.map_toArray, List.map_cons, List.map_nil]); first | done | rfl | (simp only [List.length_drop, List.length_take]; rfl)) ?_; (with_reducible refine (ontimeref17_has.calls kj2 t264 121 true _ A21.out).mono ?_); rintro e w' ⟨rfl, ⟨nd, rfl⟩⟩; refine ⟨_, rfl, ?_⟩; have hcz24_0 : wc.cell? ⟨gb263, 0, none⟩ = some (.int .u8 a0_0) := (blk_cell BK263.out 0).trans rfl; have hcz24_1 : wc.cell? ⟨gb263, 1, none⟩ = some (.int .i64 a0_1) := (blk_cell BK263.out 1).trans rfl; have hcz24_2 : wc.cell? ⟨gb263, 2, none⟩ = some (.int .i64 a0_2) := (blk_cell BK263.out 2).trans rfl; have hcz24_3 : wc.cell? ⟨gb263, 3, none⟩ = some (.int .i64 a0_3) := (blk_cell BK263.out 3).trans rfl; have hcz24_4 : wc.cell? ⟨gb263, 4, none⟩ = some (.int .i64 a0_4) := (blk_cell BK263.out 4).trans rfl; have hcz24_5 : wc.cell? ⟨gb263, 5, none⟩ = some (.string a0_5) := (blk_cell BK263.out 5).trans rfl; have hfz24_0 := blk_frozen BK263.out 0; have hfz24_1 := blk_frozen BK263.out 1; have hfz24_2 := blk_frozen BK263.out 2; have hfz24_3 := blk_frozen BK263.out 3; have hfz24_4 := blk_frozen BK263.out 4; have hfz24_5 := blk_frozen BK263.out 5) | ((with_reducible refine gate_builtin (b := .append) (xs := #[.tmp 22, .tmp 25]) rfl ?_); at_builtin; refine Kd.R_append (Kd.int .i64) (w0 := w) w.heap.size rfl (.tmp 22) (.tmp 25) 39 3 (.int .i64 0) 8 rfl Try.underlying39 info3 rfl (by decide) (by omega) (.slice none 0 0) ([] : List Int) a0_3 [.int .i64 a0_3] (fun _ => True) (fun _ => False) rfl rfl ?aP (fun _ hk => hk.elim) ?aF ?aO ?aB ?aS ?aL ?_; (case aP => exact rfl); (case aB => exact (by repeat (first | (with_reducible first | exact HB.out | apply below_alloc | apply pw_below_drewN | apply below_drew1 | refine below_set ?_ GE263.out) | exact HB.out))); (case aF => exact (fun _ _ => trivial)); (case aO => exact (by (with_reducible repeat (first | apply Kd.R_alloc | apply Kd.R_drewN | apply Kd.R_drew)); exact HO_4.out)); (case aS => exact (below_size (by repeat (first | (with_reducible first | exact HB.out | apply below_alloc | apply pw_below_drewN | apply below_drew1 | refine below_set ?_ GE263.out) | exact HB.out)))); (case aL => have := LMc23.out; omega); intro v275 w25 ho hb hg hat; rw [← Ny274.out] at ho; have n0_ := Aside0.mk (blk_grown (g := gb263) (o := .cells #[.int .u8 a0_0, .int .i64 a0_1, .int .i64 a0_2, .int .i64 a0_3, .int .i64 a0_4, .string a0_5] 80 (0, 0)) (by (with_reducible repeat (first | refine blk_drewN ?_ _ | refine blk_drew ?_ | refine blk_alloc ?_ _)); exact BK263.out) hg (Kd.R_ne HO_4.out BK263.out (by decide))); have n1_ := Aside0.mk (hb); have n2_ := Aside0.mk (ho); clear BK263; clear HB; clear HO_4; have BK263 := n0_; have HB := n1_; have HO276 := n2_; clear n0_ n1_ n2_; clear ho hb hg hat))
            go_ret
            exact ⟨_, by first | rfl | (simp [errW_none, errW_some] <;> rfl) | (simp [*, errW_none, errW_some] <;> rfl), by (with_reducible repeat (first | apply Kd.R_alloc | apply Kd.R_drewN | apply Kd.R_drew)); exact HO276.out, by repeat (first | (with_reducible first | exact HB.out | apply below_alloc | apply pw_below_drewN | apply below_drew1 | refine below_set ?_ GE263.out) | exact HB.out)⟩
          · rw [if_neg c23] at H
            exact absurd H (by simp)
        · replace c22 := Bool.eq_false_iff.mpr c22
          subst c22
          have H1 : (some ([] : List Int)) = some r := by rw [if_neg (show ¬ (false = true) by decide)] at H; exact H
          clear H
          have H := H1
          clear H1
          obtain rfl := Option.some.inj H
          go_wp2_with (first | ((with_reducible refine gate_callee (f := 72) rfl ?_); refine goesL_ (some 21) rfl rfl Try.func72 (by kernel_rfl) rfl #[.string t264, .int .u8 121] rfl (by (try simp only [List.map_toArray, List.map_cons, List.map_nil]); first | done | rfl | (simp only [List.length_drop, List.length_take]; rfl)) ?_; (with_reducible refine (ontimeref17_has.calls kj2 t264 121 false _ A21.out).mono ?_); rintro e w' ⟨rfl, ⟨nd, rfl⟩⟩; refine ⟨_, rfl, ?_⟩))
          go_ret
          exact ⟨_, by first | rfl | (simp [errW_none, errW_some] <;> rfl) | (simp [*, errW_none, errW_some] <;> rfl), by (with_reducible repeat (first | apply Kd.R_alloc | apply Kd.R_drewN | apply Kd.R_drew)); exact HO_4.out, by repeat (first | (with_reducible first | exact HB.out | apply below_alloc | apply pw_below_drewN | apply below_drew1 | refine below_set ?_ GE263.out) | exact HB.out)⟩
end Go.Proofs.Ythgodpmahdnnjaa.H
end
section
namespace Go.Proofs.Ythgodpmahdnnjaa.H
open Go.RowKit Go.Proofs.YthgodpmahdnnjaaW.PrintWords Go.Proofs.YthgodpmahdnnjaaW.PrintLast Go.Proofs.YthgodpmahdnnjaaW.PrintMore
set_option linter.unusedVariables false
set_option linter.unusedSimpArgs false
def ontimeref19_defines.f (k : Nat) (a0_0 : ByteArray) (a0_1 : Int) (l0_2 : List (S107)) (l0_3 : List (S79)) (a1 : Int) (a2 : Int) (a3 : Int) : Option (Bool) := if 0 ≤ a1 then (if a1 < (l0_3.length : Int) then (if a2 = (((rd_T79 l0_3 a1).f0).length : Int) then (some false) else (if 0 ≤ a2 then (if a2 < (((rd_T79 l0_3 a1).f0).length : Int) then ((ontimeref17_Defines.f k ((rd_T80 ((rd_T79 l0_3 a1).f0) a2).f0) ((rd_T80 ((rd_T79 l0_3 a1).f0) a2).f1) ((rd_T80 ((rd_T79 l0_3 a1).f0) a2).f2) ((rd_T80 ((rd_T79 l0_3 a1).f0) a2).f3) ((rd_T80 ((rd_T79 l0_3 a1).f0) a2).f4) ((rd_T80 ((rd_T79 l0_3 a1).f0) a2).f5)).bind fun bt288 => (if bt288.2 = true then (some (bt288.1 == a3)) else (some false))) else (none)) else (none))) else (none)) else (none)
theorem ontimeref19_defines.mono : ∀ a0 a1 a2 a3 a4 a5 a6 k, LeO (ontimeref19_defines.f k a0 a1 a2 a3 a4 a5 a6) (ontimeref19_defines.f (k + 1) a0 a1 a2 a3 a4 a5 a6) := by
  intro a0 a1 a2 a3 a4 a5 a6 k
  unfold ontimeref19_defines.f
  repeat' first
      | (with_reducible exact ontimeref17_Defines.mono _ _ _ _ _ _ _)
      | (with_reducible exact LeO.refl _)
      | (with_reducible exact LeO.none _)
      | (with_reducible refine LeO.ite ?_ ?_)
      | (with_reducible refine LeO.bind ?_ (fun _ => ?_))
      | exact ontimeref17_Defines.mono _ _ _ _ _ _ _
      | exact LeO.none _
      | refine LeO.ite ?_ ?_
      | refine LeO.bind ?_ (fun _ => ?_)
set_option maxHeartbeats 8000000 in
set_option maxRecDepth 100000 in
theorem ontimeref19_defines.calls (k : Nat) (a0_0 : ByteArray) (a0_1 : Int) (A0_2 : Option Addr) (c0_2 : Nat) (l0_2 : List (S107)) (A0_3 : Option Addr) (c0_3 : Nat) (l0_3 : List (S79)) (a1 : Int) (a2 : Int) (a3 : Int) (r : Bool) (w : World) (hr0_2 : Kd.C k107 w A0_2 l0_2.length l0_2) (hc0_2 : l0_2.length ≤ c0_2) (hr0_3 : Kd.C k79 w A0_3 l0_3.length l0_3) (hc0_3 : l0_3.length ≤ c0_3) (h : ontimeref19_defines.f k a0_0 a0_1 l0_2 l0_3 a1 a2 a3 = some r) :
    Calls Try.prog 54 #[.agg #[.string a0_0, .int .i64 a0_1, .slice A0_2 l0_2.length c0_2, .slice A0_3 l0_3.length c0_3], .int .i64 a1, .int .i64 a2, .int .i64 a3] w fun e w' => e = .returned (.bool r) ∧ Below w.heap.size w w' := by
  have hu36 := Try.underlying36
  have hu79 := Try.underlying79
  have hu80 := Try.underlying80
  have HR0_2 := Aside0.mk hr0_2
  have HC0_2 := Aside0.mk hc0_2
  clear hr0_2 hc0_2
  have HR0_3 := Aside0.mk hr0_3
  have HC0_3 := Aside0.mk hc0_3
  clear hr0_3 hc0_3
  have HB := Aside0.mk (Below.refl w.heap.size w)
  have H : (if 0 ≤ a1 then (if a1 < (l0_3.length : Int) then (if a2 = (((rd_T79 l0_3 a1).f0).length : Int) then (some false) else (if 0 ≤ a2 then (if a2 < (((rd_T79 l0_3 a1).f0).length : Int) then ((ontimeref17_Defines.f k ((rd_T80 ((rd_T79 l0_3 a1).f0) a2).f0) ((rd_T80 ((rd_T79 l0_3 a1).f0) a2).f1) ((rd_T80 ((rd_T79 l0_3 a1).f0) a2).f2) ((rd_T80 ((rd_T79 l0_3 a1).f0) a2).f3) ((rd_T80 ((rd_T79 l0_3 a1).f0) a2).f4) ((rd_T80 ((rd_T79 l0_3 a1).f0) a2).f5)).bind fun bt288 => (if bt288.2 = true then (some (bt288.1 == a3)) else (some false))) else (none)) else (none))) else (none)) else (none)) = some r := h
  clear h
  by_cases c5 : 0 ≤ a1
  · rw [if_pos c5] at H
    have c5b0 : decide (0 ≤ a1) = true := decide_eq_true c5
    clear c5
    by_cases c6 : a1 < (l0_3.length : Int)
    · rw [if_pos c6] at H
      have c6b0 : decide (a1 < (l0_3.length : Int)) = true := decide_eq_true c6
      clear c6
      by_cases c7 : a2 = (((rd_T79 l0_3 a1).f0).length : Int)
      · rw [if_pos c7] at H
        have c7b0 : (a2 == (((rd_T79 l0_3 a1).f0).length : Int)) = true := beq_iff_eq.mpr c7
        have c7b1 : (a2 != (((rd_T79 l0_3 a1).f0).length : Int)) = false := bne_eq_false_iff_eq.mpr c7
        clear c7
        obtain rfl := Option.some.inj H
        go_enter Try.func54, Try.ntmps54
        go_wp2_with (first | ((with_reducible refine gate_dst (N := 4) rfl ?_); refine box_event ?hg (N := 4) ?hd (cs := #[.string a0_0, .int .i64 a0_1, .slice A0_2 l0_2.length c0_2, .slice A0_3 l0_3.length c0_3]) (t := 36) ?hr ?_; (case hd => rfl); (case hg => rfl); (case hr => first | (go_simp; done) | (go_simp; rfl)); intro gb284 hg w8 hbox hb; have n0_ := Aside0.mk (below_step (by repeat (first | (with_reducible first | exact HB.out | apply below_alloc | apply pw_below_drewN | apply below_drew1) | exact HB.out)) hb); have n1_ := Aside0.mk (hbox); have n2_ := Aside0.mk ((by rw [hg]; exact (below_size (by repeat (first | (with_reducible first | exact HB.out | apply below_alloc | apply pw_below_drewN | apply below_drew1) | exact HB.out))) : w.heap.size ≤ gb284)); have n3_ := Aside0.mk ((by rw [hg]; exact (below_size (by repeat (first | (with_reducible first | exact HB.out | apply below_alloc | apply pw_below_drewN | apply below_drew1) | exact HB.out))) : w.heap.size ≤ gb284)); clear HB; have HB := n0_; have BK284 := n1_; have GW284 := n2_; have GE284 := n3_; clear n0_ n1_ n2_ n3_; clear hb hbox hg; have hcz9_0 : w8.cell? ⟨gb284, 0, none⟩ = some (.string a0_0) := (blk_cell BK284.out 0).trans rfl; have hcz9_1 : w8.cell? ⟨gb284, 1, none⟩ = some (.int .i64 a0_1) := (blk_cell BK284.out 1).trans rfl; have hcz9_2 : w8.cell? ⟨gb284, 2, none⟩ = some (.slice A0_2 l0_2.length c0_2) := (blk_cell BK284.out 2).trans rfl; have hcz9_3 : w8.cell? ⟨gb284, 3, none⟩ = some (.slice A0_3 l0_3.length c0_3) := (blk_cell BK284.out 3).trans rfl; have hfz9_0 := blk_frozen BK284.out 0; have hfz9_1 := blk_frozen BK284.out 1; have hfz9_2 := blk_frozen BK284.out 2; have hfz9_3 := blk_frozen BK284.out 3; have p285 : 0 ≤ (a1 : Int) := of_decide_eq_true (by first | (with_reducible assumption) | assumption); have q285 : a1 < (l0_3.length : Int) := of_decide_eq_true (by first | (with_reducible assumption) | assumption); obtain ⟨ad285, A285_0, c285_0, e285, hx285_0, hx285_1, hx285_2, hx285_3, hx285_4, hl285_0, hi285_0⟩ := at_T79 HR0_3.out a1 p285 q285; cases e285; replace hx285_0 := (HB.out.cell (World.block_lt_of_cell? w _ hx285_0)).trans hx285_0; replace hx285_1 := (HB.out.cell (World.block_lt_of_cell? w _ hx285_1)).trans hx285_1; replace hx285_2 := (HB.out.cell (World.block_lt_of_cell? w _ hx285_2)).trans hx285_2; replace hx285_3 := (HB.out.cell (World.block_lt_of_cell? w _ hx285_3)).trans hx285_3; replace hx285_4 := (HB.out.cell (World.block_lt_of_cell? w _ hx285_4)).trans hx285_4; have HR285_0 := Aside0.mk hi285_0; have HC285_0 := Aside0.mk hl285_0; clear hi285_0 hl285_0; replace p285 := eq_true p285; replace q285 := eq_true q285) | ((with_reducible refine gate_dst (N := 9) rfl ?_); refine box_event ?hg (N := 9) ?hd (cs := #[.slice none 0 0, .int .u8 0, .int .i64 0, .int .i64 0, .int .i64 0]) (t := 79) ?hr ?_; (case hd => rfl); (case hg => rfl); (case hr => first | (go_simp; done) | (go_simp; rfl)); intro gb286 hg w10 hbox hb; have n0_ := Aside0.mk (blk_below (g := gb284) (o := .cells #[.string a0_0, .int .i64 a0_1, .slice A0_2 l0_2.length c0_2, .slice (some ad285) l0_3.length c0_3] 36 (0, 0)) (by (with_reducible repeat (first | refine blk_drewN ?_ _ | refine blk_drew ?_ | refine blk_alloc ?_ _)); exact BK284.out) hb); have n1_ := Aside0.mk (below_step (by repeat (first | (with_reducible first | exact HB.out | apply below_alloc | apply pw_below_drewN | apply below_drew1 | refine below_set ?_ GE284.out) | exact HB.out)) hb); have n2_ := Aside0.mk (hbox); have n3_ := Aside0.mk ((by rw [hg]; exact (below_size (by repeat (first | (with_reducible first | exact HB.out | apply below_alloc | apply pw_below_drewN | apply below_drew1 | refine below_set ?_ GE284.out) | exact HB.out))) : w.heap.size ≤ gb286)); have n4_ := Aside0.mk ((by rw [hg]; exact (below_size (by repeat (first | (with_reducible first | exact HB.out | apply below_alloc | apply pw_below_drewN | apply below_drew1 | refine below_set ?_ GE284.out) | exact HB.out))) : w.heap.size ≤ gb286)); have n5_ := Aside0.mk ((by rw [hg]; exact Nat.ne_of_lt (blk_lt (g := gb284) (o := .cells #[.string a0_0, .int .i64 a0_1, .slice A0_2 l0_2.length c0_2, .slice (some ad285) l0_3.length c0_3] 36 (0, 0)) (by (with_reducible repeat (first | refine blk_drewN ?_ _ | refine blk_drew ?_ | refine blk_alloc ?_ _)); exact BK284.out)) : gb284 ≠ gb286)); have n6_ := Aside0.mk ((by rw [hg]; exact Nat.ne_of_gt (blk_lt (g := gb284) (o := .cells #[.string a0_0, .int .i64 a0_1, .slice A0_2 l0_2.length c0_2, .slice (some ad285) l0_3.length c0_3] 36 (0, 0)) (by (with_reducible repeat (first | refine blk_drewN ?_ _ | refine blk_drew ?_ | refine blk_alloc ?_ _)); exact BK284.out)) : gb286 ≠ gb284)); clear BK284; clear HB; have BK284 := n0_; have HB := n1_; have BK286 := n2_; have GW286 := n3_; have GE286 := n4_; have NB284_286 := n5_; have NB286_284 := n6_; clear n0_ n1_ n2_ n3_ n4_ n5_ n6_; clear hb hbox hg; have hnb11 := NB286_284.out; have hnc11 := NB284_286.out; have hcz12_0 : w10.cell? ⟨gb286, 0, none⟩ = some (.slice none 0 0) := (blk_cell BK286.out 0).trans rfl; have hcz12_1 : w10.cell? ⟨gb286, 1, none⟩ = some (.int .u8 0) := (blk_cell BK286.out 1).trans rfl; have hcz12_2 : w10.cell? ⟨gb286, 2, none⟩ = some (.int .i64 0) := (blk_cell BK286.out 2).trans rfl; have hcz12_3 : w10.cell? ⟨gb286, 3, none⟩ = some (.int .i64 0) := (blk_cell BK286.out 3).trans rfl; have hcz12_4 : w10.cell? ⟨gb286, 4, none⟩ = some (.int .i64 0) := (blk_cell BK286.out 4).trans rfl; have hfz12_0 := blk_frozen BK286.out 0; have hfz12_1 := blk_frozen BK286.out 1; have hfz12_2 := blk_frozen BK286.out 2; have hfz12_3 := blk_frozen BK286.out 3; have hfz12_4 := blk_frozen BK286.out 4))
        go_ret
        exact ⟨by first | rfl | (simp [errW_none, errW_some] <;> rfl) | (simp [*, errW_none, errW_some] <;> rfl), by repeat (first | (with_reducible first | exact HB.out | apply below_alloc | apply pw_below_drewN | apply below_drew1 | refine below_set ?_ GE284.out | refine below_set ?_ GE286.out) | exact HB.out)⟩
      · rw [if_neg c7] at H
        have c7b0 : (a2 == (((rd_T79 l0_3 a1).f0).length : Int)) = false := beq_eq_false_iff_ne.mpr c7
        have c7b1 : (a2 != (((rd_T79 l0_3 a1).f0).length : Int)) = true := bne_iff_ne.mpr c7
        by_cases c13 : 0 ≤ a2
        · rw [if_pos c13] at H
          have c13b0 : decide (0 ≤ a2) = true := decide_eq_true c13
          clear c13
          by_cases c14 : a2 < (((rd_T79 l0_3 a1).f0).length : Int)
          · rw [if_pos c14] at H
            have c14b0 : decide (a2 < (((rd_T79 l0_3 a1).f0).length : Int)) = true := decide_eq_true c14
            clear c14
            replace H := Option.bind_eq_some_iff.mp H
            obtain ⟨⟨t288, t289⟩, A150, H⟩ := H
            replace H : (if t289 = true then (some (t288 == a3)) else (some false)) = some r := H
            have A15 := Aside0.mk A150
            clear A150
            by_cases c16 : t289 = true
            · subst c16
              have H1 : (some (t288 == a3)) = some r := by rw [if_pos rfl] at H; exact H
              clear H
              have H := H1
              clear H1
              obtain rfl := Option.some.inj H
              go_enter Try.func54, Try.ntmps54
              go_wp2_with (first | ((with_reducible refine gate_dst (N := 4) rfl ?_); refine box_event ?hg (N := 4) ?hd (cs := #[.string a0_0, .int .i64 a0_1, .slice A0_2 l0_2.length c0_2, .slice A0_3 l0_3.length c0_3]) (t := 36) ?hr ?_; (case hd => rfl); (case hg => rfl); (case hr => first | (go_simp; done) | (go_simp; rfl)); intro gb284 hg w17 hbox hb; have n0_ := Aside0.mk (below_step (by repeat (first | (with_reducible first | exact HB.out | apply below_alloc | apply pw_below_drewN | apply below_drew1) | exact HB.out)) hb); have n1_ := Aside0.mk (hbox); have n2_ := Aside0.mk ((by rw [hg]; exact (below_size (by repeat (first | (with_reducible first | exact HB.out | apply below_alloc | apply pw_below_drewN | apply below_drew1) | exact HB.out))) : w.heap.size ≤ gb284)); have n3_ := Aside0.mk ((by rw [hg]; exact (below_size (by repeat (first | (with_reducible first | exact HB.out | apply below_alloc | apply pw_below_drewN | apply below_drew1) | exact HB.out))) : w.heap.size ≤ gb284)); clear HB; have HB := n0_; have BK284 := n1_; have GW284 := n2_; have GE284 := n3_; clear n0_ n1_ n2_ n3_; clear hb hbox hg; have hcz18_0 : w17.cell? ⟨gb284, 0, none⟩ = some (.string a0_0) := (blk_cell BK284.out 0).trans rfl; have hcz18_1 : w17.cell? ⟨gb284, 1, none⟩ = some (.int .i64 a0_1) := (blk_cell BK284.out 1).trans rfl; have hcz18_2 : w17.cell? ⟨gb284, 2, none⟩ = some (.slice A0_2 l0_2.length c0_2) := (blk_cell BK284.out 2).trans rfl; have hcz18_3 : w17.cell? ⟨gb284, 3, none⟩ = some (.slice A0_3 l0_3.length c0_3) := (blk_cell BK284.out 3).trans rfl; have hfz18_0 := blk_frozen BK284.out 0; have hfz18_1 := blk_frozen BK284.out 1; have hfz18_2 := blk_frozen BK284.out 2; have hfz18_3 := blk_frozen BK284.out 3; have p285 : 0 ≤ (a1 : Int) := of_decide_eq_true (by first | (with_reducible assumption) | assumption); have q285 : a1 < (l0_3.length : Int) := of_decide_eq_true (by first | (with_reducible assumption) | assumption); obtain ⟨ad285, A285_0, c285_0, e285, hx285_0, hx285_1, hx285_2, hx285_3, hx285_4, hl285_0, hi285_0⟩ := at_T79 HR0_3.out a1 p285 q285; cases e285; replace hx285_0 := (HB.out.cell (World.block_lt_of_cell? w _ hx285_0)).trans hx285_0; replace hx285_1 := (HB.out.cell (World.block_lt_of_cell? w _ hx285_1)).trans hx285_1; replace hx285_2 := (HB.out.cell (World.block_lt_of_cell? w _ hx285_2)).trans hx285_2; replace hx285_3 := (HB.out.cell (World.block_lt_of_cell? w _ hx285_3)).trans hx285_3; replace hx285_4 := (HB.out.cell (World.block_lt_of_cell? w _ hx285_4)).trans hx285_4; have HR285_0 := Aside0.mk hi285_0; have HC285_0 := Aside0.mk hl285_0; clear hi285_0 hl285_0; replace p285 := eq_true p285; replace q285 := eq_true q285) | ((with_reducible refine gate_dst (N := 9) rfl ?_); refine box_event ?hg (N := 9) ?hd (cs := #[.slice none 0 0, .int .u8 0, .int .i64 0, .int .i64 0, .int .i64 0]) (t := 79) ?hr ?_; (case hd => rfl); (case hg => rfl); (case hr => first | (go_simp; done) | (go_simp; rfl)); intro gb286 hg w19 hbox hb; have n0_ := Aside0.mk (blk_below (g := gb284) (o := .cells #[.string a0_0, .int .i64 a0_1, .slice A0_2 l0_2.length c0_2, .slice (some ad285) l0_3.length c0_3] 36 (0, 0)) (by (with_reducible repeat (first | refine blk_drewN ?_ _ | refine blk_drew ?_ | refine blk_alloc ?_ _)); exact BK284.out) hb); have n1_ := Aside0.mk (below_step (by repeat (first | (with_reducible first | exact HB.out | apply below_alloc | apply pw_below_drewN | apply below_drew1 | refine below_set ?_ GE284.out) | exact HB.out)) hb); have n2_ := Aside0.mk (hbox); have n3_ := Aside0.mk ((by rw [hg]; exact (below_size (by repeat (first | (with_reducible first | exact HB.out | apply below_alloc | apply pw_below_drewN | apply below_drew1 | refine below_set ?_ GE284.out) | exact HB.out))) : w.heap.size ≤ gb286)); have n4_ := Aside0.mk ((by rw [hg]; exact (below_size (by repeat (first | (with_reducible first | exact HB.out | apply below_alloc | apply pw_below_drewN | apply below_drew1 | refine below_set ?_ GE284.out) | exact HB.out))) : w.heap.size ≤ gb286)); have n5_ := Aside0.mk ((by rw [hg]; exact Nat.ne_of_lt (blk_lt (g := gb284) (o := .cells #[.string a0_0, .int .i64 a0_1, .slice A0_2 l0_2.length c0_2, .slice (some ad285) l0_3.length c0_3] 36 (0, 0)) (by (with_reducible repeat (first | refine blk_drewN ?_ _ | refine blk_drew ?_ | refine blk_alloc ?_ _)); exact BK284.out)) : gb284 ≠ gb286)); have n6_ := Aside0.mk ((by rw [hg]; exact Nat.ne_of_gt (blk_lt (g := gb284) (o := .cells #[.string a0_0, .int .i64 a0_1, .slice A0_2 l0_2.length c0_2, .slice (some ad285) l0_3.length c0_3] 36 (0, 0)) (by (with_reducible repeat (first | refine blk_drewN ?_ _ | refine blk_drew ?_ | refine blk_alloc ?_ _)); exact BK284.out)) : gb286 ≠ gb284)); clear BK284; clear HB; have BK284 := n0_; have HB := n1_; have BK286 := n2_; have GW286 := n3_; have GE286 := n4_; have NB284_286 := n5_; have NB286_284 := n6_; clear n0_ n1_ n2_ n3_ n4_ n5_ n6_; clear hb hbox hg; have hnb20 := NB286_284.out; have hnc20 := NB284_286.out; have hcz21_0 : w19.cell? ⟨gb286, 0, none⟩ = some (.slice none 0 0) := (blk_cell BK286.out 0).trans rfl; have hcz21_1 : w19.cell? ⟨gb286, 1, none⟩ = some (.int .u8 0) := (blk_cell BK286.out 1).trans rfl; have hcz21_2 : w19.cell? ⟨gb286, 2, none⟩ = some (.int .i64 0) := (blk_cell BK286.out 2).trans rfl; have hcz21_3 : w19.cell? ⟨gb286, 3, none⟩ = some (.int .i64 0) := (blk_cell BK286.out 3).trans rfl; have hcz21_4 : w19.cell? ⟨gb286, 4, none⟩ = some (.int .i64 0) := (blk_cell BK286.out 4).trans rfl; have hfz21_0 := blk_frozen BK286.out 0; have hfz21_1 := blk_frozen BK286.out 1; have hfz21_2 := blk_frozen BK286.out 2; have hfz21_3 := blk_frozen BK286.out 3; have hfz21_4 := blk_frozen BK286.out 4; have p287 : 0 ≤ (a2 : Int) := of_decide_eq_true (by first | (with_reducible assumption) | assumption); have q287 : a2 < (((rd_T79 l0_3 a1).f0).length : Int) := of_decide_eq_true (by first | (with_reducible assumption) | assumption); obtain ⟨ad287, e287, hx287_0, hx287_1, hx287_2, hx287_3, hx287_4, hx287_5⟩ := at_T80 HR285_0.out a2 p287 q287; cases e287; have hn287_0 : ad287.block ≠ gb286 := Nat.ne_of_lt (Nat.lt_of_lt_of_le (by have := World.block_lt_of_cell? _ _ hx287_0; first | rwa [add_block] at this | exact this) GW286.out); have hn287_1 : ad287.block ≠ gb286 := Nat.ne_of_lt (Nat.lt_of_lt_of_le (by have := World.block_lt_of_cell? _ _ hx287_0; first | rwa [add_block] at this | exact this) GW286.out); have hn287_2 : ad287.block ≠ gb286 := Nat.ne_of_lt (Nat.lt_of_lt_of_le (by have := World.block_lt_of_cell? _ _ hx287_0; first | rwa [add_block] at this | exact this) GW286.out); have hn287_3 : ad287.block ≠ gb286 := Nat.ne_of_lt (Nat.lt_of_lt_of_le (by have := World.block_lt_of_cell? _ _ hx287_0; first | rwa [add_block] at this | exact this) GW286.out); have hn287_4 : ad287.block ≠ gb286 := Nat.ne_of_lt (Nat.lt_of_lt_of_le (by have := World.block_lt_of_cell? _ _ hx287_0; first | rwa [add_block] at this | exact this) GW286.out); replace hx287_0 := (HB.out.cell (World.block_lt_of_cell? w _ hx287_0)).trans hx287_0; replace hx287_1 := (HB.out.cell (World.block_lt_of_cell? w _ hx287_1)).trans hx287_1; replace hx287_2 := (HB.out.cell (World.block_lt_of_cell? w _ hx287_2)).trans hx287_2; replace hx287_3 := (HB.out.cell (World.block_lt_of_cell? w _ hx287_3)).trans hx287_3; replace hx287_4 := (HB.out.cell (World.block_lt_of_cell? w _ hx287_4)).trans hx287_4; replace hx287_5 := (HB.out.cell (World.block_lt_of_cell? w _ hx287_5)).trans hx287_5; replace hx287_0 := (cell_far (p := ⟨gb286, 0, none⟩) (by first | (rw [add_block]; exact hn287_0) | (show (Addr.add _ _).block ≠ _; rw [add_block]; exact hn287_0) | exact hn287_0) (.slice (some ad287) ((rd_T79 l0_3 a1).f0).length c285_0)).trans hx287_0; replace hx287_1 := (cell_far (p := ⟨gb286, 0, none⟩) (by first | (rw [add_block]; exact hn287_0) | (show (Addr.add _ _).block ≠ _; rw [add_block]; exact hn287_0) | exact hn287_0) (.slice (some ad287) ((rd_T79 l0_3 a1).f0).length c285_0)).trans hx287_1; replace hx287_2 := (cell_far (p := ⟨gb286, 0, none⟩) (by first | (rw [add_block]; exact hn287_0) | (show (Addr.add _ _).block ≠ _; rw [add_block]; exact hn287_0) | exact hn287_0) (.slice (some ad287) ((rd_T79 l0_3 a1).f0).length c285_0)).trans hx287_2; replace hx287_3 := (cell_far (p := ⟨gb286, 0, none⟩) (by first | (rw [add_block]; exact hn287_0) | (show (Addr.add _ _).block ≠ _; rw [add_block]; exact hn287_0) | exact hn287_0) (.slice (some ad287) ((rd_T79 l0_3 a1).f0).length c285_0)).trans hx287_3; replace hx287_4 := (cell_far (p := ⟨gb286, 0, none⟩) (by first | (rw [add_block]; exact hn287_0) | (show (Addr.add _ _).block ≠ _; rw [add_block]; exact hn287_0) | exact hn287_0) (.slice (some ad287) ((rd_T79 l0_3 a1).f0).length c285_0)).trans hx287_4; replace hx287_5 := (cell_far (p := ⟨gb286, 0, none⟩) (by first | (rw [add_block]; exact hn287_0) | (show (Addr.add _ _).block ≠ _; rw [add_block]; exact hn287_0) | exact hn287_0) (.slice (some ad287) ((rd_T79 l0_3 a1).f0).length c285_0)).trans hx287_5; replace hx287_0 := (cell_far (p := ⟨gb286, 1, none⟩) (by first | (rw [add_block]; exact hn287_1) | (show (Addr.add _ _).block ≠ _; rw [add_block]; exact hn287_1) | exact hn287_1) (.int .u8 ((rd_T79 l0_3 a1).f1))).trans hx287_0; replace hx287_1 := (cell_far (p := ⟨gb286, 1, none⟩) (by first | (rw [add_block]; exact hn287_1) | (show (Addr.add _ _).block ≠ _; rw [add_block]; exact hn287_1) | exact hn287_1) (.int .u8 ((rd_T79 l0_3 a1).f1))).trans hx287_1; replace hx287_2 := (cell_far (p := ⟨gb286, 1, none⟩) (by first | (rw [add_block]; exact hn287_1) | (show (Addr.add _ _).block ≠ _; rw [add_block]; exact hn287_1) | exact hn287_1) (.int .u8 ((rd_T79 l0_3 a1).f1))).trans hx287_2; replace hx287_3 := (cell_far (p := ⟨gb286, 1, none⟩) (by first | (rw [add_block]; exact hn287_1) | (show (Addr.add _ _).block ≠ _; rw [add_block]; exact hn287_1) | exact hn287_1) (.int .u8 ((rd_T79 l0_3 a1).f1))).trans hx287_3; replace hx287_4 := (cell_far (p := ⟨gb286, 1, none⟩) (by first | (rw [add_block]; exact hn287_1) | (show (Addr.add _ _).block ≠ _; rw [add_block]; exact hn287_1) | exact hn287_1) (.int .u8 ((rd_T79 l0_3 a1).f1))).trans hx287_4; replace hx287_5 := (cell_far (p := ⟨gb286, 1, none⟩) (by first | (rw [add_block]; exact hn287_1) | (show (Addr.add _ _).block ≠ _; rw [add_block]; exact hn287_1) | exact hn287_1) (.int .u8 ((rd_T79 l0_3 a1).f1))).trans hx287_5; replace hx287_0 := (cell_far (p := ⟨gb286, 2, none⟩) (by first | (rw [add_block]; exact hn287_2) | (show (Addr.add _ _).block ≠ _; rw [add_block]; exact hn287_2) | exact hn287_2) (.int .i64 ((rd_T79 l0_3 a1).f2))).trans hx287_0; replace hx287_1 := (cell_far (p := ⟨gb286, 2, none⟩) (by first | (rw [add_block]; exact hn287_2) | (show (Addr.add _ _).block ≠ _; rw [add_block]; exact hn287_2) | exact hn287_2) (.int .i64 ((rd_T79 l0_3 a1).f2))).trans hx287_1; replace hx287_2 := (cell_far (p := ⟨gb286, 2, none⟩) (by first | (rw [add_block]; exact hn287_2) | (show (Addr.add _ _).block ≠ _; rw [add_block]; exact hn287_2) | exact hn287_2) (.int .i64 ((rd_T79 l0_3 a1).f2))).trans hx287_2; replace hx287_3 := (cell_far (p := ⟨gb286, 2, none⟩) (by first | (rw [add_block]; exact hn287_2) | (show (Addr.add _ _).block ≠ _; rw [add_block]; exact hn287_2) | exact hn287_2) (.int .i64 ((rd_T79 l0_3 a1).f2))).trans hx287_3; replace hx287_4 := (cell_far (p := ⟨gb286, 2, none⟩) (by first | (rw [add_block]; exact hn287_2) | (show (Addr.add _ _).block ≠ _; rw [add_block]; exact hn287_2) | exact hn287_2) (.int .i64 ((rd_T79 l0_3 a1).f2))).trans hx287_4; replace hx287_5 := (cell_far (p := ⟨gb286, 2, none⟩) (by first | (rw [add_block]; exact hn287_2) | (show (Addr.add _ _).block ≠ _; rw [add_block]; exact hn287_2) | exact hn287_2) (.int .i64 ((rd_T79 l0_3 a1).f2))).trans hx287_5; replace hx287_0 := (cell_far (p := ⟨gb286, 3, none⟩) (by first | (rw [add_block]; exact hn287_3) | (show (Addr.add _ _).block ≠ _; rw [add_block]; exact hn287_3) | exact hn287_3) (.int .i64 ((rd_T79 l0_3 a1).f3))).trans hx287_0; replace hx287_1 := (cell_far (p := ⟨gb286, 3, none⟩) (by first | (rw [add_block]; exact hn287_3) | (show (Addr.add _ _).block ≠ _; rw [add_block]; exact hn287_3) | exact hn287_3) (.int .i64 ((rd_T79 l0_3 a1).f3))).trans hx287_1; replace hx287_2 := (cell_far (p := ⟨gb286, 3, none⟩) (by first | (rw [add_block]; exact hn287_3) | (show (Addr.add _ _).block ≠ _; rw [add_block]; exact hn287_3) | exact hn287_3) (.int .i64 ((rd_T79 l0_3 a1).f3))).trans hx287_2; replace hx287_3 := (cell_far (p := ⟨gb286, 3, none⟩) (by first | (rw [add_block]; exact hn287_3) | (show (Addr.add _ _).block ≠ _; rw [add_block]; exact hn287_3) | exact hn287_3) (.int .i64 ((rd_T79 l0_3 a1).f3))).trans hx287_3; replace hx287_4 := (cell_far (p := ⟨gb286, 3, none⟩) (by first | (rw [add_block]; exact hn287_3) | (show (Addr.add _ _).block ≠ _; rw [add_block]; exact hn287_3) | exact hn287_3) (.int .i64 ((rd_T79 l0_3 a1).f3))).trans hx287_4; replace hx287_5 := (cell_far (p := ⟨gb286, 3, none⟩) (by first | (rw [add_block]; exact hn287_3) | (show (Addr.add _ _).block ≠ _; rw [add_block]; exact hn287_3) | exact hn287_3) (.int .i64 ((rd_T79 l0_3 a1).f3))).trans hx287_5; replace hx287_0 := (cell_far (p := ⟨gb286, 4, none⟩) (by first | (rw [add_block]; exact hn287_4) | (show (Addr.add _ _).block ≠ _; rw [add_block]; exact hn287_4) | exact hn287_4) (.int .i64 ((rd_T79 l0_3 a1).f4))).trans hx287_0; replace hx287_1 := (cell_far (p := ⟨gb286, 4, none⟩) (by first | (rw [add_block]; exact hn287_4) | (show (Addr.add _ _).block ≠ _; rw [add_block]; exact hn287_4) | exact hn287_4) (.int .i64 ((rd_T79 l0_3 a1).f4))).trans hx287_1; replace hx287_2 := (cell_far (p := ⟨gb286, 4, none⟩) (by first | (rw [add_block]; exact hn287_4) | (show (Addr.add _ _).block ≠ _; rw [add_block]; exact hn287_4) | exact hn287_4) (.int .i64 ((rd_T79 l0_3 a1).f4))).trans hx287_2; replace hx287_3 := (cell_far (p := ⟨gb286, 4, none⟩) (by first | (rw [add_block]; exact hn287_4) | (show (Addr.add _ _).block ≠ _; rw [add_block]; exact hn287_4) | exact hn287_4) (.int .i64 ((rd_T79 l0_3 a1).f4))).trans hx287_3; replace hx287_4 := (cell_far (p := ⟨gb286, 4, none⟩) (by first | (rw [add_block]; exact hn287_4) | (show (Addr.add _ _).block ≠ _; rw [add_block]; exact hn287_4) | exact hn287_4) (.int .i64 ((rd_T79 l0_3 a1).f4))).trans hx287_4; replace hx287_5 := (cell_far (p := ⟨gb286, 4, none⟩) (by first | (rw [add_block]; exact hn287_4) | (show (Addr.add _ _).block ≠ _; rw [add_block]; exact hn287_4) | exact hn287_4) (.int .i64 ((rd_T79 l0_3 a1).f4))).trans hx287_5; clear hn287_0; clear hn287_1; clear hn287_2; clear hn287_3; clear hn287_4; replace p287 := eq_true p287; replace q287 := eq_true q287) | ((with_reducible refine gate_callee (f := 55) rfl ?_); refine goesL_ (some 28) rfl rfl Try.func55 (by kernel_rfl) rfl #[.agg #[.int .u8 ((rd_T80 ((rd_T79 l0_3 a1).f0) a2).f0), .int .i64 ((rd_T80 ((rd_T79 l0_3 a1).f0) a2).f1), .int .i64 ((rd_T80 ((rd_T79 l0_3 a1).f0) a2).f2), .int .i64 ((rd_T80 ((rd_T79 l0_3 a1).f0) a2).f3), .int .i64 ((rd_T80 ((rd_T79 l0_3 a1).f0) a2).f4), .string ((rd_T80 ((rd_T79 l0_3 a1).f0) a2).f5)]] rfl (by (try simp only [List.map_toArray, List.map_cons, List.map_nil]); first | done | rfl | (simp only [List.length_drop, List.length_take]; rfl)) ?_; (with_reducible refine (ontimeref17_Defines.calls k ((rd_T80 ((rd_T79 l0_3 a1).f0) a2).f0) ((rd_T80 ((rd_T79 l0_3 a1).f0) a2).f1) ((rd_T80 ((rd_T79 l0_3 a1).f0) a2).f2) ((rd_T80 ((rd_T79 l0_3 a1).f0) a2).f3) ((rd_T80 ((rd_T79 l0_3 a1).f0) a2).f4) ((rd_T80 ((rd_T79 l0_3 a1).f0) a2).f5) t288 true _ A15.out).mono ?_); rintro e w22 ⟨rfl, hb⟩; refine ⟨_, rfl, ?_⟩; have n0_ := Aside0.mk (blk_below (g := gb284) (o := .cells #[.string a0_0, .int .i64 a0_1, .slice A0_2 l0_2.length c0_2, .slice (some ad285) l0_3.length c0_3] 36 (0, 0)) (by (with_reducible repeat (first | refine blk_drewN ?_ _ | refine blk_drew ?_ | refine blk_alloc ?_ _)); refine blk_far ?_ NB284_286.out _; (with_reducible repeat (first | refine blk_drewN ?_ _ | refine blk_drew ?_ | refine blk_alloc ?_ _)); refine blk_far ?_ NB284_286.out _; (with_reducible repeat (first | refine blk_drewN ?_ _ | refine blk_drew ?_ | refine blk_alloc ?_ _)); refine blk_far ?_ NB284_286.out _; (with_reducible repeat (first | refine blk_drewN ?_ _ | refine blk_drew ?_ | refine blk_alloc ?_ _)); refine blk_far ?_ NB284_286.out _; (with_reducible repeat (first | refine blk_drewN ?_ _ | refine blk_drew ?_ | refine blk_alloc ?_ _)); refine blk_far ?_ NB284_286.out _; (with_reducible repeat (first | refine blk_drewN ?_ _ | refine blk_drew ?_ | refine blk_alloc ?_ _)); exact BK284.out) hb); have n1_ := Aside0.mk (blk_below (g := gb286) (o := .cells #[.slice (some ad287) ((rd_T79 l0_3 a1).f0).length c285_0, .int .u8 ((rd_T79 l0_3 a1).f1), .int .i64 ((rd_T79 l0_3 a1).f2), .int .i64 ((rd_T79 l0_3 a1).f3), .int .i64 ((rd_T79 l0_3 a1).f4)] 79 (0, 0)) (by (with_reducible repeat (first | refine blk_drewN ?_ _ | refine blk_drew ?_ | refine blk_alloc ?_ _)); refine blk_put (cs := #[.slice (some ad287) ((rd_T79 l0_3 a1).f0).length c285_0, .int .u8 ((rd_T79 l0_3 a1).f1), .int .i64 ((rd_T79 l0_3 a1).f2), .int .i64 ((rd_T79 l0_3 a1).f3), .int .i64 0]) ?_ 4 _ rfl; (with_reducible repeat (first | refine blk_drewN ?_ _ | refine blk_drew ?_ | refine blk_alloc ?_ _)); refine blk_put (cs := #[.slice (some ad287) ((rd_T79 l0_3 a1).f0).length c285_0, .int .u8 ((rd_T79 l0_3 a1).f1), .int .i64 ((rd_T79 l0_3 a1).f2), .int .i64 0, .int .i64 0]) ?_ 3 _ rfl; (with_reducible repeat (first | refine blk_drewN ?_ _ | refine blk_drew ?_ | refine blk_alloc ?_ _)); refine blk_put (cs := #[.slice (some ad287) ((rd_T79 l0_3 a1).f0).length c285_0, .int .u8 ((rd_T79 l0_3 a1).f1), .int .i64 0, .int .i64 0, .int .i64 0]) ?_ 2 _ rfl; (with_reducible repeat (first | refine blk_drewN ?_ _ | refine blk_drew ?_ | refine blk_alloc ?_ _)); refine blk_put (cs := #[.slice (some ad287) ((rd_T79 l0_3 a1).f0).length c285_0, .int .u8 0, .int .i64 0, .int .i64 0, .int .i64 0]) ?_ 1 _ rfl; (with_reducible repeat (first | refine blk_drewN ?_ _ | refine blk_drew ?_ | refine blk_alloc ?_ _)); refine blk_put (cs := #[.slice none 0 0, .int .u8 0, .int .i64 0, .int .i64 0, .int .i64 0]) ?_ 0 _ rfl; (with_reducible repeat (first | refine blk_drewN ?_ _ | refine blk_drew ?_ | refine blk_alloc ?_ _)); exact BK286.out) hb); have n2_ := Aside0.mk (below_step (by repeat (first | (with_reducible first | exact HB.out | apply below_alloc | apply pw_below_drewN | apply below_drew1 | refine below_set ?_ GE284.out | refine below_set ?_ GE286.out) | exact HB.out)) hb); clear BK284; clear BK286; clear HB; have BK284 := n0_; have BK286 := n1_; have HB := n2_; clear n0_ n1_ n2_; (try clear hb); (try clear hb2); (try clear hk); (try clear hi)))
              go_ret
              exact ⟨by first | rfl | (simp [errW_none, errW_some] <;> rfl) | (simp [*, errW_none, errW_some] <;> rfl), by repeat (first | (with_reducible first | exact HB.out | apply below_alloc | apply pw_below_drewN | apply below_drew1 | refine below_set ?_ GE284.out | refine below_set ?_ GE286.out) | exact HB.out)⟩
            · replace c16 := Bool.eq_false_iff.mpr c16
              subst c16
              have H1 : (some false) = some r := by rw [if_neg (show ¬ (false = true) by decide)] at H; exact H
              clear H
              have H := H1
              clear H1
              obtain rfl := Option.some.inj H
              go_enter Try.func54, Try.ntmps54
              go_wp2_with (first | ((with_reducible refine gate_dst (N := 4) rfl ?_); refine box_event ?hg (N := 4) ?hd (cs := #[.string a0_0, .int .i64 a0_1, .slice A0_2 l0_2.length c0_2, .slice A0_3 l0_3.length c0_3]) (t := 36) ?hr ?_; (case hd => rfl); (case hg => rfl); (case hr => first | (go_simp; done) | (go_simp; rfl)); intro gb284 hg w23 hbox hb; have n0_ := Aside0.mk (below_step (by repeat (first | (with_reducible first | exact HB.out | apply below_alloc | apply pw_below_drewN | apply below_drew1) | exact HB.out)) hb); have n1_ := Aside0.mk (hbox); have n2_ := Aside0.mk ((by rw [hg]; exact (below_size (by repeat (first | (with_reducible first | exact HB.out | apply below_alloc | apply pw_below_drewN | apply below_drew1) | exact HB.out))) : w.heap.size ≤ gb284)); have n3_ := Aside0.mk ((by rw [hg]; exact (below_size (by repeat (first | (with_reducible first | exact HB.out | apply below_alloc | apply pw_below_drewN | apply below_drew1) | exact HB.out))) : w.heap.size ≤ gb284)); clear HB; have HB := n0_; have BK284 := n1_; have GW284 := n2_; have GE284 := n3_; clear n0_ n1_ n2_ n3_; clear hb hbox hg; have hcz24_0 : w23.cell? ⟨gb284, 0, none⟩ = some (.string a0_0) := (blk_cell BK284.out 0).trans rfl; have hcz24_1 : w23.cell? ⟨gb284, 1, none⟩ = some (.int .i64 a0_1) := (blk_cell BK284.out 1).trans rfl; have hcz24_2 : w23.cell? ⟨gb284, 2, none⟩ = some (.slice A0_2 l0_2.length c0_2) := (blk_cell BK284.out 2).trans rfl; have hcz24_3 : w23.cell? ⟨gb284, 3, none⟩ = some (.slice A0_3 l0_3.length c0_3) := (blk_cell BK284.out 3).trans rfl; have hfz24_0 := blk_frozen BK284.out 0; have hfz24_1 := blk_frozen BK284.out 1; have hfz24_2 := blk_frozen BK284.out 2; have hfz24_3 := blk_frozen BK284.out 3; have p285 : 0 ≤ (a1 : Int) := of_decide_eq_true (by first | (with_reducible assumption) | assumption); have q285 : a1 < (l0_3.length : Int) := of_decide_eq_true (by first | (with_reducible assumption) | assumption); obtain ⟨ad285, A285_0, c285_0, e285, hx285_0, hx285_1, hx285_2, hx285_3, hx285_4, hl285_0, hi285_0⟩ := at_T79 HR0_3.out a1 p285 q285; cases e285; replace hx285_0 := (HB.out.cell (World.block_lt_of_cell? w _ hx285_0)).trans hx285_0; replace hx285_1 := (HB.out.cell (World.block_lt_of_cell? w _ hx285_1)).trans hx285_1; replace hx285_2 := (HB.out.cell (World.block_lt_of_cell? w _ hx285_2)).trans hx285_2; replace hx285_3 := (HB.out.cell (World.block_lt_of_cell? w _ hx285_3)).trans hx285_3; replace hx285_4 := (HB.out.cell (World.block_lt_of_cell? w _ hx285_4)).trans hx285_4; have HR285_0 := Aside0.mk hi285_0; have HC285_0 := Aside0.mk hl285_0; clear hi285_0 hl285_0; replace p285 := eq_true p285; replace q285 := eq_true q285) | ((with_reducible refine gate_dst (N := 9) rfl ?_); refine box_event ?hg (N := 9) ?hd (cs := #[.slice none 0 0, .int .u8 0, .int .i64 0, .int .i64 0, .int .i64 0]) (t := 79) ?hr ?_; (case hd => rfl); (case hg => rfl); (case hr => first | (go_simp; done) | (go_simp; rfl)); intro gb286 hg w25 hbox hb; have n0_ := Aside0.mk (blk_below (g := gb284) (o := .cells #[.string a0_0, .int .i64 a0_1, .slice A0_2 l0_2.length c0_2, .slice (some ad285) l0_3.length c0_3] 36 (0, 0)) (by (with_reducible repeat (first | refine blk_drewN ?_ _ | refine blk_drew ?_ | refine blk_alloc ?_ _)); exact BK284.out) hb); have n1_ := Aside0.mk (below_step (by repeat (first | (with_reducible first | exact HB.out | apply below_alloc | apply pw_below_drewN | apply below_drew1 | refine below_set ?_ GE284.out) | exact HB.out)) hb); have n2_ := Aside0.mk (hbox); have n3_ := Aside0.mk ((by rw [hg]; exact (below_size (by repeat (first | (with_reducible first | exact HB.out | apply below_alloc | apply pw_below_drewN | apply below_drew1 | refine below_set ?_ GE284.out) | exact HB.out))) : w.heap.size ≤ gb286)); have n4_ := Aside0.mk ((by rw [hg]; exact (below_size (by repeat (first | (with_reducible first | exact HB.out | apply below_alloc | apply pw_below_drewN | apply below_drew1 | refine below_set ?_ GE284.out) | exact HB.out))) : w.heap.size ≤ gb286)); have n5_ := Aside0.mk ((by rw [hg]; exact Nat.ne_of_lt (blk_lt (g := gb284) (o := .cells #[.string a0_0, .int .i64 a0_1, .slice A0_2 l0_2.length c0_2, .slice (some ad285) l0_3.length c0_3] 36 (0, 0)) (by (with_reducible repeat (first | refine blk_drewN ?_ _ | refine blk_drew ?_ | refine blk_alloc ?_ _)); exact BK284.out)) : gb284 ≠ gb286)); have n6_ := Aside0.mk ((by rw [hg]; exact Nat.ne_of_gt (blk_lt (g := gb284) (o := .cells #[.string a0_0, .int .i64 a0_1, .slice A0_2 l0_2.length c0_2, .slice (some ad285) l0_3.length c0_3] 36 (0, 0)) (by (with_reducible repeat (first | refine blk_drewN ?_ _ | refine blk_drew ?_ | refine blk_alloc ?_ _)); exact BK284.out)) : gb286 ≠ gb284)); clear BK284; clear HB; have BK284 := n0_; have HB := n1_; have BK286 := n2_; have GW286 := n3_; have GE286 := n4_; have NB284_286 := n5_; have NB286_284 := n6_; clear n0_ n1_ n2_ n3_ n4_ n5_ n6_; clear hb hbox hg; have hnb26 := NB286_284.out; have hnc26 := NB284_286.out; have hcz27_0 : w25.cell? ⟨gb286, 0, none⟩ = some (.slice none 0 0) := (blk_cell BK286.out 0).trans rfl; have hcz27_1 : w25.cell? ⟨gb286, 1, none⟩ = some (.int .u8 0) := (blk_cell BK286.out 1).trans rfl; have hcz27_2 : w25.cell? ⟨gb286, 2, none⟩ = some (.int .i64 0) := (blk_cell BK286.out 2).trans rfl; have hcz27_3 : w25.cell? ⟨gb286, 3, none⟩ = some (.int .i64 0) := (blk_cell BK286.out 3).trans rfl; have hcz27_4 : w25.cell? ⟨gb286, 4, none⟩ = some (.int .i64 0) := (blk_cell BK286.out 4).trans rfl; have hfz27_0 := blk_frozen BK286.out 0; have hfz27_1 := blk_frozen BK286.out 1; have hfz27_2 := blk_frozen BK286.out 2; have hfz27_3 := blk_frozen BK286.out 3; have hfz27_4 := blk_frozen BK286.out 4; have p287 : 0 ≤ (a2 : Int) := of_decide_eq_true (by first | (with_reducible assumption) | assumption); have q287 : a2 < (((rd_T79 l0_3 a1).f0).length : Int) := of_decide_eq_true (by first | (with_reducible assumption) | assumption); obtain ⟨ad287, e287, hx287_0, hx287_1, hx287_2, hx287_3, hx287_4, hx287_5⟩ := at_T80 HR285_0.out a2 p287 q287; cases e287; have hn287_0 : ad287.block ≠ gb286 := Nat.ne_of_lt (Nat.lt_of_lt_of_le (by have := World.block_lt_of_cell? _ _ hx287_0; first | rwa [add_block] at this | exact this) GW286.out); have hn287_1 : ad287.block ≠ gb286 := Nat.ne_of_lt (Nat.lt_of_lt_of_le (by have := World.block_lt_of_cell? _ _ hx287_0; first | rwa [add_block] at this | exact this) GW286.out); have hn287_2 : ad287.block ≠ gb286 := Nat.ne_of_lt (Nat.lt_of_lt_of_le (by have := World.block_lt_of_cell? _ _ hx287_0; first | rwa [add_block] at this | exact this) GW286.out); have hn287_3 : ad287.block ≠ gb286 := Nat.ne_of_lt (Nat.lt_of_lt_of_le (by have := World.block_lt_of_cell? _ _ hx287_0; first | rwa [add_block] at this | exact this) GW286.out); have hn287_4 : ad287.block ≠ gb286 := Nat.ne_of_lt (Nat.lt_of_lt_of_le (by have := World.block_lt_of_cell? _ _ hx287_0; first | rwa [add_block] at this | exact this) GW286.out); replace hx287_0 := (HB.out.cell (World.block_lt_of_cell? w _ hx287_0)).trans hx287_0; replace hx287_1 := (HB.out.cell (World.block_lt_of_cell? w _ hx287_1)).trans hx287_1; replace hx287_2 := (HB.out.cell (World.block_lt_of_cell? w _ hx287_2)).trans hx287_2; replace hx287_3 := (HB.out.cell (World.block_lt_of_cell? w _ hx287_3)).trans hx287_3; replace hx287_4 := (HB.out.cell (World.block_lt_of_cell? w _ hx287_4)).trans hx287_4; replace hx287_5 := (HB.out.cell (World.block_lt_of_cell? w _ hx287_5)).trans hx287_5; replace hx287_0 := (cell_far (p := ⟨gb286, 0, none⟩) (by first | (rw [add_block]; exact hn287_0) | (show (Addr.add _ _).block ≠ _; rw [add_block]; exact hn287_0) | exact hn287_0) (.slice (some ad287) ((rd_T79 l0_3 a1).f0).length c285_0)).trans hx287_0; replace hx287_1 := (cell_far (p := ⟨gb286, 0, none⟩) (by first | (rw [add_block]; exact hn287_0) | (show (Addr.add _ _).block ≠ _; rw [add_block]; exact hn287_0) | exact hn287_0) (.slice (some ad287) ((rd_T79 l0_3 a1).f0).length c285_0)).trans hx287_1; replace hx287_2 := (cell_far (p := ⟨gb286, 0, none⟩) (by first | (rw [add_block]; exact hn287_0) | (show (Addr.add _ _).block ≠ _; rw [add_block]; exact hn287_0) | exact hn287_0) (.slice (some ad287) ((rd_T79 l0_3 a1).f0).length c285_0)).trans hx287_2; replace hx287_3 := (cell_far (p := ⟨gb286, 0, none⟩) (by first | (rw [add_block]; exact hn287_0) | (show (Addr.add _ _).block ≠ _; rw [add_block]; exact hn287_0) | exact hn287_0) (.slice (some ad287) ((rd_T79 l0_3 a1).f0).length c285_0)).trans hx287_3; replace hx287_4 := (cell_far (p := ⟨gb286, 0, none⟩) (by first | (rw [add_block]; exact hn287_0) | (show (Addr.add _ _).block ≠ _; rw [add_block]; exact hn287_0) | exact hn287_0) (.slice (some ad287) ((rd_T79 l0_3 a1).f0).length c285_0)).trans hx287_4; replace hx287_5 := (cell_far (p := ⟨gb286, 0, none⟩) (by first | (rw [add_block]; exact hn287_0) | (show (Addr.add _ _).block ≠ _; rw [add_block]; exact hn287_0) | exact hn287_0) (.slice (some ad287) ((rd_T79 l0_3 a1).f0).length c285_0)).trans hx287_5; replace hx287_0 := (cell_far (p := ⟨gb286, 1, none⟩) (by first | (rw [add_block]; exact hn287_1) | (show (Addr.add _ _).block ≠ _; rw [add_block]; exact hn287_1) | exact hn287_1) (.int .u8 ((rd_T79 l0_3 a1).f1))).trans hx287_0; replace hx287_1 := (cell_far (p := ⟨gb286, 1, none⟩) (by first | (rw [add_block]; exact hn287_1) | (show (Addr.add _ _).block ≠ _; rw [add_block]; exact hn287_1) | exact hn287_1) (.int .u8 ((rd_T79 l0_3 a1).f1))).trans hx287_1; replace hx287_2 := (cell_far (p := ⟨gb286, 1, none⟩) (by first | (rw [add_block]; exact hn287_1) | (show (Addr.add _ _).block ≠ _; rw [add_block]; exact hn287_1) | exact hn287_1) (.int .u8 ((rd_T79 l0_3 a1).f1))).trans hx287_2; replace hx287_3 := (cell_far (p := ⟨gb286, 1, none⟩) (by first | (rw [add_block]; exact hn287_1) | (show (Addr.add _ _).block ≠ _; rw [add_block]; exact hn287_1) | exact hn287_1) (.int .u8 ((rd_T79 l0_3 a1).f1))).trans hx287_3; replace hx287_4 := (cell_far (p := ⟨gb286, 1, none⟩) (by first | (rw [add_block]; exact hn287_1) | (show (Addr.add _ _).block ≠ _; rw [add_block]; exact hn287_1) | exact hn287_1) (.int .u8 ((rd_T79 l0_3 a1).f1))).trans hx287_4; replace hx287_5 := (cell_far (p := ⟨gb286, 1, none⟩) (by first | (rw [add_block]; exact hn287_1) | (show (Addr.add _ _).block ≠ _; rw [add_block]; exact hn287_1) | exact hn287_1) (.int .u8 ((rd_T79 l0_3 a1).f1))).trans hx287_5; replace hx287_0 := (cell_far (p := ⟨gb286, 2, none⟩) (by first | (rw [add_block]; exact hn287_2) | (show (Addr.add _ _).block ≠ _; rw [add_block]; exact hn287_2) | exact hn287_2) (.int .i64 ((rd_T79 l0_3 a1).f2))).trans hx287_0; replace hx287_1 := (cell_far (p := ⟨gb286, 2, none⟩) (by first | (rw [add_block]; exact hn287_2) | (show (Addr.add _ _).block ≠ _; rw [add_block]; exact hn287_2) | exact hn287_2) (.int .i64 ((rd_T79 l0_3 a1).f2))).trans hx287_1; replace hx287_2 := (cell_far (p := ⟨gb286, 2, none⟩) (by first | (rw [add_block]; exact hn287_2) | (show (Addr.add _ _).block ≠ _; rw [add_block]; exact hn287_2) | exact hn287_2) (.int .i64 ((rd_T79 l0_3 a1).f2))).trans hx287_2; replace hx287_3 := (cell_far (p := ⟨gb286, 2, none⟩) (by first | (rw [add_block]; exact hn287_2) | (show (Addr.add _ _).block ≠ _; rw [add_block]; exact hn287_2) | exact hn287_2) (.int .i64 ((rd_T79 l0_3 a1).f2))).trans hx287_3; replace hx287_4 := (cell_far (p := ⟨gb286, 2, none⟩) (by first | (rw [add_block]; exact hn287_2) | (show (Addr.add _ _).block ≠ _; rw [add_block]; exact hn287_2) | exact hn287_2) (.int .i64 ((rd_T79 l0_3 a1).f2))).trans hx287_4; replace hx287_5 := (cell_far (p := ⟨gb286, 2, none⟩) (by first | (rw [add_block]; exact hn287_2) | (show (Addr.add _ _).block ≠ _; rw [add_block]; exact hn287_2) | exact hn287_2) (.int .i64 ((rd_T79 l0_3 a1).f2))).trans hx287_5; replace hx287_0 := (cell_far (p := ⟨gb286, 3, none⟩) (by first | (rw [add_block]; exact hn287_3) | (show (Addr.add _ _).block ≠ _; rw [add_block]; exact hn287_3) | exact hn287_3) (.int .i64 ((rd_T79 l0_3 a1).f3))).trans hx287_0; replace hx287_1 := (cell_far (p := ⟨gb286, 3, none⟩) (by first | (rw [add_block]; exact hn287_3) | (show (Addr.add _ _).block ≠ _; rw [add_block]; exact hn287_3) | exact hn287_3) (.int .i64 ((rd_T79 l0_3 a1).f3))).trans hx287_1; replace hx287_2 := (cell_far (p := ⟨gb286, 3, none⟩) (by first | (rw [add_block]; exact hn287_3) | (show (Addr.add _ _).block ≠ _; rw [add_block]; exact hn287_3) | exact hn287_3) (.int .i64 ((rd_T79 l0_3 a1).f3))).trans hx287_2; replace hx287_3 := (cell_far (p := ⟨gb286, 3, none⟩) (by first | (rw [add_block]; exact hn287_3) | (show (Addr.add _ _).block ≠ _; rw [add_block]; exact hn287_3) | exact hn287_3) (.int .i64 ((rd_T79 l0_3 a1).f3))).trans hx287_3; replace hx287_4 := (cell_far (p := ⟨gb286, 3, none⟩) (by first | (rw [add_block]; exact hn287_3) | (show (Addr.add _ _).block ≠ _; rw [add_block]; exact hn287_3) | exact hn287_3) (.int .i64 ((rd_T79 l0_3 a1).f3))).trans hx287_4; replace hx287_5 := (cell_far (p := ⟨gb286, 3, none⟩) (by first | (rw [add_block]; exact hn287_3) | (show (Addr.add _ _).block ≠ _; rw [add_block]; exact hn287_3) | exact hn287_3) (.int .i64 ((rd_T79 l0_3 a1).f3))).trans hx287_5; replace hx287_0 := (cell_far (p := ⟨gb286, 4, none⟩) (by first | (rw [add_block]; exact hn287_4) | (show (Addr.add _ _).block ≠ _; rw [add_block]; exact hn287_4) | exact hn287_4) (.int .i64 ((rd_T79 l0_3 a1).f4))).trans hx287_0; replace hx287_1 := (cell_far (p := ⟨gb286, 4, none⟩) (by first | (rw [add_block]; exact hn287_4) | (show (Addr.add _ _).block ≠ _; rw [add_block]; exact hn287_4) | exact hn287_4) (.int .i64 ((rd_T79 l0_3 a1).f4))).trans hx287_1; replace hx287_2 := (cell_far (p := ⟨gb286, 4, none⟩) (by first | (rw [add_block]; exact hn287_4) | (show (Addr.add _ _).block ≠ _; rw [add_block]; exact hn287_4) | exact hn287_4) (.int .i64 ((rd_T79 l0_3 a1).f4))).trans hx287_2; replace hx287_3 := (cell_far (p := ⟨gb286, 4, none⟩) (by first | (rw [add_block]; exact hn287_4) | (show (Addr.add _ _).block ≠ _; rw [add_block]; exact hn287_4) | exact hn287_4) (.int .i64 ((rd_T79 l0_3 a1).f4))).trans hx287_3; replace hx287_4 := (cell_far (p := ⟨gb286, 4, none⟩) (by first | (rw [add_block]; exact hn287_4) | (show (Addr.add _ _).block ≠ _; rw [add_block]; exact hn287_4) | exact hn287_4) (.int .i64 ((rd_T79 l0_3 a1).f4))).trans hx287_4; replace hx287_5 := (cell_far (p := ⟨gb286, 4, none⟩) (by first | (rw [add_block]; exact hn287_4) | (show (Addr.add _ _).block ≠ _; rw [add_block]; exact hn287_4) | exact hn287_4) (.int .i64 ((rd_T79 l0_3 a1).f4))).trans hx287_5; clear hn287_0; clear hn287_1; clear hn287_2; clear hn287_3; clear hn287_4; replace p287 := eq_true p287; replace q287 := eq_true q287) | ((with_reducible refine gate_callee (f := 55) rfl ?_); refine goesL_ (some 28) rfl rfl Try.func55 (by kernel_rfl) rfl #[.agg #[.int .u8 ((rd_T80 ((rd_T79 l0_3 a1).f0) a2).f0), .int .i64 ((rd_T80 ((rd_T79 l0_3 a1).f0) a2).f1), .int .i64 ((rd_T80 ((rd_T79 l0_3 a1).f0) a2).f2), .int .i64 ((rd_T80 ((rd_T79 l0_3 a1).f0) a2).f3), .int .i64 ((rd_T80 ((rd_T79 l0_3 a1).f0) a2).f4), .string ((rd_T80 ((rd_T79 l0_3 a1).f0) a2).f5)]] rfl (by (try simp only [List.map_toArray, List.map_cons, List.map_nil]); first | done | rfl | (simp only [List.length_drop, List.length_take]; rfl)) ?_; (with_reducible refine (ontimeref17_Defines.calls k ((rd_T80 ((rd_T79 l0_3 a1).f0) a2).f0) ((rd_T80 ((rd_T79 l0_3 a1).f0) a2).f1) ((rd_T80 ((rd_T79 l0_3 a1).f0) a2).f2) ((rd_T80 ((rd_T79 l0_3 a1).f0) a2).f3) ((rd_T80 ((rd_T79 l0_3 a1).f0) a2).f4) ((rd_T80 ((rd_T79 l0_3 a1).f0) a2).f5) t288 false _ A15.out).mono ?_); rintro e w28 ⟨rfl, hb⟩; refine ⟨_, rfl, ?_⟩; have n0_ := Aside0.mk (blk_below (g := gb284) (o := .cells #[.string a0_0, .int .i64 a0_1, .slice A0_2 l0_2.length c0_2, .slice (some ad285) l0_3.length c0_3] 36 (0, 0)) (by (with_reducible repeat (first | refine blk_drewN ?_ _ | refine blk_drew ?_ | refine blk_alloc ?_ _)); refine blk_far ?_ NB284_286.out _; (with_reducible repeat (first | refine blk_drewN ?_ _ | refine blk_drew ?_ | refine blk_alloc ?_ _)); refine blk_far ?_ NB284_286.out _; (with_reducible repeat (first | refine blk_drewN ?_ _ | refine blk_drew ?_ | refine blk_alloc ?_ _)); refine blk_far ?_ NB284_286.out _; (with_reducible repeat (first | refine blk_drewN ?_ _ | refine blk_drew ?_ | refine blk_alloc ?_ _)); refine blk_far ?_ NB284_286.out _; (with_reducible repeat (first | refine blk_drewN ?_ _ | refine blk_drew ?_ | refine blk_alloc ?_ _)); refine blk_far ?_ NB284_286.out _; (with_reducible repeat (first | refine blk_drewN ?_ _ | refine blk_drew ?_ | refine blk_alloc ?_ _)); exact BK284.out) hb); have n1_ := Aside0.mk (blk_below (g := gb286) (o := .cells #[.slice (some ad287) ((rd_T79 l0_3 a1).f0).length c285_0, .int .u8 ((rd_T79 l0_3 a1).f1), .int .i64 ((rd_T79 l0_3 a1).f2), .int .i64 ((rd_T79 l0_3 a1).f3), .int .i64 ((rd_T79 l0_3 a1).f4)] 79 (0, 0)) (by (with_reducible repeat (first | refine blk_drewN ?_ _ | refine blk_drew ?_ | refine blk_alloc ?_ _)); refine blk_put (cs := #[.slice (some ad287) ((rd_T79 l0_3 a1).f0).length c285_0, .int .u8 ((rd_T79 l0_3 a1).f1), .int .i64 ((rd_T79 l0_3 a1).f2), .int .i64 ((rd_T79 l0_3 a1).f3), .int .i64 0]) ?_ 4 _ rfl; (with_reducible repeat (first | refine blk_drewN ?_ _ | refine blk_drew ?_ | refine blk_alloc ?_ _)); refine blk_put (cs := #[.slice (some ad287) ((rd_T79 l0_3 a1).f0).length c285_0, .int .u8 ((rd_T79 l0_3 a1).f1), .int .i64 ((rd_T79 l0_3 a1).f2), .int .i64 0, .int .i64 0]) ?_ 3 _ rfl; (with_reducible repeat (first | refine blk_drewN ?_ _ | refine blk_drew ?_ | refine blk_alloc ?_ _)); refine blk_put (cs := #[.slice (some ad287) ((rd_T79 l0_3 a1).f0).length c285_0, .int .u8 ((rd_T79 l0_3 a1).f1), .int .i64 0, .int .i64 0, .int .i64 0]) ?_ 2 _ rfl; (with_reducible repeat (first | refine blk_drewN ?_ _ | refine blk_drew ?_ | refine blk_alloc ?_ _)); refine blk_put (cs := #[.slice (some ad287) ((rd_T79 l0_3 a1).f0).length c285_0, .int .u8 0, .int .i64 0, .int .i64 0, .int .i64 0]) ?_ 1 _ rfl; (with_reducible repeat (first | refine blk_drewN ?_ _ | refine blk_drew ?_ | refine blk_alloc ?_ _)); refine blk_put (cs := #[.slice none 0 0, .int .u8 0, .int .i64 0, .int .i64 0, .int .i64 0]) ?_ 0 _ rfl; (with_reducible repeat (first | refine blk_drewN ?_ _ | refine blk_drew ?_ | refine blk_alloc ?_ _)); exact BK286.out) hb); have n2_ := Aside0.mk (below_step (by repeat (first | (with_reducible first | exact HB.out | apply below_alloc | apply pw_below_drewN | apply below_drew1 | refine below_set ?_ GE284.out | refine below_set ?_ GE286.out) | exact HB.out)) hb); clear BK284; clear BK286; clear HB; have BK284 := n0_; have BK286 := n1_; have HB := n2_; clear n0_ n1_ n2_; (try clear hb); (try clear hb2); (try clear hk); (try clear hi)))
              go_ret
              exact ⟨by first | rfl | (simp [errW_none, errW_some] <;> rfl) | (simp [*, errW_none, errW_some] <;> rfl), by repeat (first | (with_reducible first | exact HB.out | apply below_alloc | apply pw_below_drewN | apply below_drew1 | refine below_set ?_ GE284.out | refine below_set ?_ GE286.out) | exact HB.out)⟩
          · rw [if_neg c14] at H
            exact absurd H (by simp)
        · rw [if_neg c13] at H
          exact absurd H (by simp)
    · rw [if_neg c6] at H
      exact absurd H (by simp)
  · rw [if_neg c5] at H
    exact absurd H (by simp)
def ontimeref19_uses.l0 : Nat → Int → List Int → Int → Option (Bool)
  | 0, _, _, _ => none
  | k + 1, x3, x10, x11 => if x11 < (x10.length : Int) then (if 0 ≤ x11 then (if (rd x10 x11) = x3 then (some true) else (ontimeref19_uses.l0 k x3 x10 (wrap64 (x11 + 1)))) else (none)) else (some false)
def ontimeref19_uses.f (k : Nat) (a0_0 : ByteArray) (a0_1 : Int) (l0_2 : List (S107)) (l0_3 : List (S79)) (a1 : Int) (a2 : Int) (a3 : Int) : Option (Bool) := if 0 ≤ a1 then (if a1 < (l0_3.length : Int) then (if a2 = (((rd_T79 l0_3 a1).f0).length : Int) then (if ((rd_T79 l0_3 a1).f1) = 2 then (some (((rd_T79 l0_3 a1).f2) == a3)) else (some false)) else (if 0 ≤ a2 then (if a2 < (((rd_T79 l0_3 a1).f0).length : Int) then ((ontimeref17_Uses.f k ((rd_T80 ((rd_T79 l0_3 a1).f0) a2).f0) ((rd_T80 ((rd_T79 l0_3 a1).f0) a2).f1) ((rd_T80 ((rd_T79 l0_3 a1).f0) a2).f2) ((rd_T80 ((rd_T79 l0_3 a1).f0) a2).f3) ((rd_T80 ((rd_T79 l0_3 a1).f0) a2).f4) ((rd_T80 ((rd_T79 l0_3 a1).f0) a2).f5)).bind fun t294 => (ontimeref19_uses.l0 k a3 t294 0)) else (none)) else (none))) else (none)) else (none)
theorem ontimeref19_uses.mono_l : ∀ k, (∀ y0 y1 y2, LeO (ontimeref19_uses.l0 k y0 y1 y2) (ontimeref19_uses.l0 (k + 1) y0 y1 y2))
  | 0 => fun _ _ _ r h => by simp [ontimeref19_uses.l0] at h
  | k + 1 => by
    have ih0 := ontimeref19_uses.mono_l k
    · intro y0 y1 y2
      unfold ontimeref19_uses.l0
      repeat' first
      | (with_reducible exact ih0 _ _ _)
      | (with_reducible exact ontimeref17_Uses.mono _ _ _ _ _ _ _)
      | (with_reducible exact LeO.refl _)
      | (with_reducible exact LeO.none _)
      | (with_reducible refine LeO.ite ?_ ?_)
      | (with_reducible refine LeO.bind ?_ (fun _ => ?_))
      | exact ih0 _ _ _
      | exact ontimeref17_Uses.mono _ _ _ _ _ _ _
      | exact LeO.none _
      | refine LeO.ite ?_ ?_
      | refine LeO.bind ?_ (fun _ => ?_)
theorem ontimeref19_uses.mono : ∀ a0 a1 a2 a3 a4 a5 a6 k, LeO (ontimeref19_uses.f k a0 a1 a2 a3 a4 a5 a6) (ontimeref19_uses.f (k + 1) a0 a1 a2 a3 a4 a5 a6) := by
  intro a0 a1 a2 a3 a4 a5 a6 k
  have ih0 := ontimeref19_uses.mono_l k
  unfold ontimeref19_uses.f
  repeat' first
      | (with_reducible exact ih0 _ _ _)
      | (with_reducible exact ontimeref17_Uses.mono _ _ _ _ _ _ _)
      | (with_reducible exact LeO.refl _)
      | (with_reducible exact LeO.none _)
      | (with_reducible refine LeO.ite ?_ ?_)
      | (with_reducible refine LeO.bind ?_ (fun _ => ?_))
      | exact ih0 _ _ _
      | exact ontimeref17_Uses.mono _ _ _ _ _ _ _
      | exact LeO.none _
      | refine LeO.ite ?_ ?_
      | refine LeO.bind ?_ (fun _ => ?_)
set_option maxHeartbeats 8000000 in
set_option maxRecDepth 100000 in
theorem ontimeref19_uses.calls (k : Nat) (a0_0 : ByteArray) (a0_1 : Int) (A0_2 : Option Addr) (c0_2 : Nat) (l0_2 : List (S107)) (A0_3 : Option Addr) (c0_3 : Nat) (l0_3 : List (S79)) (a1 : Int) (a2 : Int) (a3 : Int) (r : Bool) (w : World) (hr0_2 : Kd.C k107 w A0_2 l0_2.length l0_2) (hc0_2 : l0_2.length ≤ c0_2) (hr0_3 : Kd.C k79 w A0_3 l0_3.length l0_3) (hc0_3 : l0_3.length ≤ c0_3) (h : ontimeref19_uses.f k a0_0 a0_1 l0_2 l0_3 a1 a2 a3 = some r) :
    Calls Try.prog 78 #[.agg #[.string a0_0, .int .i64 a0_1, .slice A0_2 l0_2.length c0_2, .slice A0_3 l0_3.length c0_3], .int .i64 a1, .int .i64 a2, .int .i64 a3] w fun e w' => e = .returned (.bool r) ∧ Below w.heap.size w w' := by
  have hu36 := Try.underlying36
  have hu79 := Try.underlying79
  have hu80 := Try.underlying80
  have HR0_2 := Aside0.mk hr0_2
  have HC0_2 := Aside0.mk hc0_2
  clear hr0_2 hc0_2
  have HR0_3 := Aside0.mk hr0_3
  have HC0_3 := Aside0.mk hc0_3
  clear hr0_3 hc0_3
  have HB := Aside0.mk (Below.refl w.heap.size w)
  have H : (if 0 ≤ a1 then (if a1 < (l0_3.length : Int) then (if a2 = (((rd_T79 l0_3 a1).f0).length : Int) then (if ((rd_T79 l0_3 a1).f1) = 2 then (some (((rd_T79 l0_3 a1).f2) == a3)) else (some false)) else (if 0 ≤ a2 then (if a2 < (((rd_T79 l0_3 a1).f0).length : Int) then ((ontimeref17_Uses.f k ((rd_T80 ((rd_T79 l0_3 a1).f0) a2).f0) ((rd_T80 ((rd_T79 l0_3 a1).f0) a2).f1) ((rd_T80 ((rd_T79 l0_3 a1).f0) a2).f2) ((rd_T80 ((rd_T79 l0_3 a1).f0) a2).f3) ((rd_T80 ((rd_T79 l0_3 a1).f0) a2).f4) ((rd_T80 ((rd_T79 l0_3 a1).f0) a2).f5)).bind fun t294 => (ontimeref19_uses.l0 k a3 t294 0)) else (none)) else (none))) else (none)) else (none)) = some r := h
  clear h
  by_cases c5 : 0 ≤ a1
  · rw [if_pos c5] at H
    have c5b0 : decide (0 ≤ a1) = true := decide_eq_true c5
    clear c5
    by_cases c6 : a1 < (l0_3.length : Int)
    · rw [if_pos c6] at H
      have c6b0 : decide (a1 < (l0_3.length : Int)) = true := decide_eq_true c6
      clear c6
      by_cases c7 : a2 = (((rd_T79 l0_3 a1).f0).length : Int)
      · rw [if_pos c7] at H
        have c7b0 : (a2 == (((rd_T79 l0_3 a1).f0).length : Int)) = true := beq_iff_eq.mpr c7
        have c7b1 : (a2 != (((rd_T79 l0_3 a1).f0).length : Int)) = false := bne_eq_false_iff_eq.mpr c7
        clear c7
        by_cases c8 : ((rd_T79 l0_3 a1).f1) = 2
        · rw [if_pos c8] at H
          have c8b0 : (((rd_T79 l0_3 a1).f1) == 2) = true := beq_iff_eq.mpr c8
          have c8b1 : (((rd_T79 l0_3 a1).f1) != 2) = false := bne_eq_false_iff_eq.mpr c8
          clear c8
          obtain rfl := Option.some.inj H
          go_enter Try.func78, Try.ntmps78
          go_wp2_with (first | ((with_reducible refine gate_dst (N := 4) rfl ?_); refine box_event ?hg (N := 4) ?hd (cs := #[.string a0_0, .int .i64 a0_1, .slice A0_2 l0_2.length c0_2, .slice A0_3 l0_3.length c0_3]) (t := 36) ?hr ?_; (case hd => rfl); (case hg => rfl); (case hr => first | (go_simp; done) | (go_simp; rfl)); intro gb290 hg w9 hbox hb; have n0_ := Aside0.mk (below_step (by repeat (first | (with_reducible first | exact HB.out | apply below_alloc | apply pw_below_drewN | apply below_drew1) | exact HB.out)) hb); have n1_ := Aside0.mk (hbox); have n2_ := Aside0.mk ((by rw [hg]; exact (below_size (by repeat (first | (with_reducible first | exact HB.out | apply below_alloc | apply pw_below_drewN | apply below_drew1) | exact HB.out))) : w.heap.size ≤ gb290)); have n3_ := Aside0.mk ((by rw [hg]; exact (below_size (by repeat (first | (with_reducible first | exact HB.out | apply below_alloc | apply pw_below_drewN | apply below_drew1) | exact HB.out))) : w.heap.size ≤ gb290)); clear HB; have HB := n0_; have BK290 := n1_; have GW290 := n2_; have GE290 := n3_; clear n0_ n1_ n2_ n3_; clear hb hbox hg; have hcz10_0 : w9.cell? ⟨gb290, 0, none⟩ = some (.string a0_0) := (blk_cell BK290.out 0).trans rfl; have hcz10_1 : w9.cell? ⟨gb290, 1, none⟩ = some (.int .i64 a0_1) := (blk_cell BK290.out 1).trans rfl; have hcz10_2 : w9.cell? ⟨gb290, 2, none⟩ = some (.slice A0_2 l0_2.length c0_2) := (blk_cell BK290.out 2).trans rfl; have hcz10_3 : w9.cell? ⟨gb290, 3, none⟩ = some (.slice A0_3 l0_3.length c0_3) := (blk_cell BK290.out 3).trans rfl; have hfz10_0 := blk_frozen BK290.out 0; have hfz10_1 := blk_frozen BK290.out 1; have hfz10_2 := blk_frozen BK290.out 2; have hfz10_3 := blk_frozen BK290.out 3; have p291 : 0 ≤ (a1 : Int) := of_decide_eq_true (by first | (with_reducible assumption) | assumption); have q291 : a1 < (l0_3.length : Int) := of_decide_eq_true (by first | (with_reducible assumption) | assumption); obtain ⟨ad291, A291_0, c291_0, e291, hx291_0, hx291_1, hx291_2, hx291_3, hx291_4, hl291_0, hi291_0⟩ := at_T79 HR0_3.out a1 p291 q291; cases e291; replace hx291_0 := (HB.out.cell (World.block_lt_of_cell? w _ hx291_0)).trans hx291_0; replace hx291_1 := (HB.out.cell (World.block_lt_of_cell? w _ hx291_1)).trans hx291_1; replace hx291_2 := (HB.out.cell (World.block_lt_of_cell? w _ hx291_2)).trans hx291_2; replace hx291_3 := (HB.out.cell (World.block_lt_of_cell? w _ hx291_3)).trans hx291_3; replace hx291_4 := (HB.out.cell (World.block_lt_of_cell? w _ hx291_4)).trans hx291_4; have HR291_0 := Aside0.mk hi291_0; have HC291_0 := Aside0.mk hl291_0; clear hi291_0 hl291_0; replace p291 := eq_true p291; replace q291 := eq_true q291) | ((with_reducible refine gate_dst (N := 9) rfl ?_); refine box_event ?hg (N := 9) ?hd (cs := #[.slice none 0 0, .int .u8 0, .int .i64 0, .int .i64 0, .int .i64 0]) (t := 79) ?hr ?_; (case hd => rfl); (case hg => rfl); (case hr => first | (go_simp; done) | (go_simp; rfl)); intro gb292 hg w11 hbox hb; have n0_ := Aside0.mk (blk_below (g := gb290) (o := .cells #[.string a0_0, .int .i64 a0_1, .slice A0_2 l0_2.length c0_2, .slice (some ad291) l0_3.length c0_3] 36 (0, 0)) (by (with_reducible repeat (first | refine blk_drewN ?_ _ | refine blk_drew ?_ | refine blk_alloc ?_ _)); exact BK290.out) hb); have n1_ := Aside0.mk (below_step (by repeat (first | (with_reducible first | exact HB.out | apply below_alloc | apply pw_below_drewN | apply below_drew1 | refine below_set ?_ GE290.out) | exact HB.out)) hb); have n2_ := Aside0.mk (hbox); have n3_ := Aside0.mk ((by rw [hg]; exact (below_size (by repeat (first | (with_reducible first | exact HB.out | apply below_alloc | apply pw_below_drewN | apply below_drew1 | refine below_set ?_ GE290.out) | exact HB.out))) : w.heap.size ≤ gb292)); have n4_ := Aside0.mk ((by rw [hg]; exact (below_size (by repeat (first | (with_reducible first | exact HB.out | apply below_alloc | apply pw_below_drewN | apply below_drew1 | refine below_set ?_ GE290.out) | exact HB.out))) : w.heap.size ≤ gb292)); have n5_ := Aside0.mk ((by rw [hg]; exact Nat.ne_of_lt (blk_lt (g := gb290) (o := .cells #[.string a0_0, .int .i64 a0_1, .slice A0_2 l0_2.length c0_2, .slice (some ad291) l0_3.length c0_3] 36 (0, 0)) (by (with_reducible repeat (first | refine blk_drewN ?_ _ | refine blk_drew ?_ | refine blk_alloc ?_ _)); exact BK290.out)) : gb290 ≠ gb292)); have n6_ := Aside0.mk ((by rw [hg]; exact Nat.ne_of_gt (blk_lt (g := gb290) (o := .cells #[.string a0_0, .int .i64 a0_1, .slice A0_2 l0_2.length c0_2, .slice (some ad291) l0_3.length c0_3] 36 (0, 0)) (by (with_reducible repeat (first | refine blk_drewN ?_ _ | refine blk_drew ?_ | refine blk_alloc ?_ _)); exact BK290.out)) : gb292 ≠ gb290)); clear BK290; clear HB; have BK290 := n0_; have HB := n1_; have BK292 := n2_; have GW292 := n3_; have GE292 := n4_; have NB290_292 := n5_; have NB292_290 := n6_; clear n0_ n1_ n2_ n3_ n4_ n5_ n6_; clear hb hbox hg; have hnb12 := NB292_290.out; have hnc12 := NB290_292.out; have hcz13_0 : w11.cell? ⟨gb292, 0, none⟩ = some (.slice none 0 0) := (blk_cell BK292.out 0).trans rfl; have hcz13_1 : w11.cell? ⟨gb292, 1, none⟩ = some (.int .u8 0) := (blk_cell BK292.out 1).trans rfl; have hcz13_2 : w11.cell? ⟨gb292, 2, none⟩ = some (.int .i64 0) := (blk_cell BK292.out 2).trans rfl; have hcz13_3 : w11.cell? ⟨gb292, 3, none⟩ = some (.int .i64 0) := (blk_cell BK292.out 3).trans rfl; have hcz13_4 : w11.cell? ⟨gb292, 4, none⟩ = some (.int .i64 0) := (blk_cell BK292.out 4).trans rfl; have hfz13_0 := blk_frozen BK292.out 0; have hfz13_1 := blk_frozen BK292.out 1; have hfz13_2 := blk_frozen BK292.out 2; have hfz13_3 := blk_frozen BK292.out 3; have hfz13_4 := blk_frozen BK292.out 4))
          go_ret
          exact ⟨by first | rfl | (simp [errW_none, errW_some] <;> rfl) | (simp [*, errW_none, errW_some] <;> rfl), by repeat (first | (with_reducible first | exact HB.out | apply below_alloc | apply pw_below_drewN | apply below_drew1 | refine below_set ?_ GE290.out | refine below_set ?_ GE292.out) | exact HB.out)⟩
        · rw [if_neg c8] at H
          have c8b0 : (((rd_T79 l0_3 a1).f1) == 2) = false := beq_eq_false_iff_ne.mpr c8
          have c8b1 : (((rd_T79 l0_3 a1).f1) != 2) = true := bne_iff_ne.mpr c8
          obtain rfl := Option.some.inj H
          go_enter Try.func78, Try.ntmps78
          go_wp2_with (first | ((with_reducible refine gate_dst (N := 4) rfl ?_); refine box_event ?hg (N := 4) ?hd (cs := #[.string a0_0, .int .i64 a0_1, .slice A0_2 l0_2.length c0_2, .slice A0_3 l0_3.length c0_3]) (t := 36) ?hr ?_; (case hd => rfl); (case hg => rfl); (case hr => first | (go_simp; done) | (go_simp; rfl)); intro gb290 hg w14 hbox hb; have n0_ := Aside0.mk (below_step (by repeat (first | (with_reducible first | exact HB.out | apply below_alloc | apply pw_below_drewN | apply below_drew1) | exact HB.out)) hb); have n1_ := Aside0.mk (hbox); have n2_ := Aside0.mk ((by rw [hg]; exact (below_size (by repeat (first | (with_reducible first | exact HB.out | apply below_alloc | apply pw_below_drewN | apply below_drew1) | exact HB.out))) : w.heap.size ≤ gb290)); have n3_ := Aside0.mk ((by rw [hg]; exact (below_size (by repeat (first | (with_reducible first | exact HB.out | apply below_alloc | apply pw_below_drewN | apply below_drew1) | exact HB.out))) : w.heap.size ≤ gb290)); clear HB; have HB := n0_; have BK290 := n1_; have GW290 := n2_; have GE290 := n3_; clear n0_ n1_ n2_ n3_; clear hb hbox hg; have hcz15_0 : w14.cell? ⟨gb290, 0, none⟩ = some (.string a0_0) := (blk_cell BK290.out 0).trans rfl; have hcz15_1 : w14.cell? ⟨gb290, 1, none⟩ = some (.int .i64 a0_1) := (blk_cell BK290.out 1).trans rfl; have hcz15_2 : w14.cell? ⟨gb290, 2, none⟩ = some (.slice A0_2 l0_2.length c0_2) := (blk_cell BK290.out 2).trans rfl; have hcz15_3 : w14.cell? ⟨gb290, 3, none⟩ = some (.slice A0_3 l0_3.length c0_3) := (blk_cell BK290.out 3).trans rfl; have hfz15_0 := blk_frozen BK290.out 0; have hfz15_1 := blk_frozen BK290.out 1; have hfz15_2 := blk_frozen BK290.out 2; have hfz15_3 := blk_frozen BK290.out 3; have p291 : 0 ≤ (a1 : Int) := of_decide_eq_true (by first | (with_reducible assumption) | assumption); have q291 : a1 < (l0_3.length : Int) := of_decide_eq_true (by first | (with_reducible assumption) | assumption); obtain ⟨ad291, A291_0, c291_0, e291, hx291_0, hx291_1, hx291_2, hx291_3, hx291_4, hl291_0, hi291_0⟩ := at_T79 HR0_3.out a1 p291 q291; cases e291; replace hx291_0 := (HB.out.cell (World.block_lt_of_cell? w _ hx291_0)).trans hx291_0; replace hx291_1 := (HB.out.cell (World.block_lt_of_cell? w _ hx291_1)).trans hx291_1; replace hx291_2 := (HB.out.cell (World.block_lt_of_cell? w _ hx291_2)).trans hx291_2; replace hx291_3 := (HB.out.cell (World.block_lt_of_cell? w _ hx291_3)).trans hx291_3; replace hx291_4 := (HB.out.cell (World.block_lt_of_cell? w _ hx291_4)).trans hx291_4; have HR291_0 := Aside0.mk hi291_0; have HC291_0 := Aside0.mk hl291_0; clear hi291_0 hl291_0; replace p291 := eq_true p291; replace q291 := eq_true q291) | ((with_reducible refine gate_dst (N := 9) rfl ?_); refine box_event ?hg (N := 9) ?hd (cs := #[.slice none 0 0, .int .u8 0, .int .i64 0, .int .i64 0, .int .i64 0]) (t := 79) ?hr ?_; (case hd => rfl); (case hg => rfl); (case hr => first | (go_simp; done) | (go_simp; rfl)); intro gb292 hg w16 hbox hb; have n0_ := Aside0.mk (blk_below (g := gb290) (o := .cells #[.string a0_0, .int .i64 a0_1, .slice A0_2 l0_2.length c0_2, .slice (some ad291) l0_3.length c0_3] 36 (0, 0)) (by (with_reducible repeat (first | refine blk_drewN ?_ _ | refine blk_drew ?_ | refine blk_alloc ?_ _)); exact BK290.out) hb); have n1_ := Aside0.mk (below_step (by repeat (first | (with_reducible first | exact HB.out | apply below_alloc | apply pw_below_drewN | apply below_drew1 | refine below_set ?_ GE290.out) | exact HB.out)) hb); have n2_ := Aside0.mk (hbox); have n3_ := Aside0.mk ((by rw [hg]; exact (below_size (by repeat (first | (with_reducible first | exact HB.out | apply below_alloc | apply pw_below_drewN | apply below_drew1 | refine below_set ?_ GE290.out) | exact HB.out))) : w.heap.size ≤ gb292)); have n4_ := Aside0.mk ((by rw [hg]; exact (below_size (by repeat (first | (with_reducible first | exact HB.out | apply below_alloc | apply pw_below_drewN | apply below_drew1 | refine below_set ?_ GE290.out) | exact HB.out))) : w.heap.size ≤ gb292)); have n5_ := Aside0.mk ((by rw [hg]; exact Nat.ne_of_lt (blk_lt (g := gb290) (o := .cells #[.string a0_0, .int .i64 a0_1, .slice A0_2 l0_2.length c0_2, .slice (some ad291) l0_3.length c0_3] 36 (0, 0)) (by (with_reducible repeat (first | refine blk_drewN ?_ _ | refine blk_drew ?_ | refine blk_alloc ?_ _)); exact BK290.out)) : gb290 ≠ gb292)); have n6_ := Aside0.mk ((by rw [hg]; exact Nat.ne_of_gt (blk_lt (g := gb290) (o := .cells #[.string a0_0, .int .i64 a0_1, .slice A0_2 l0_2.length c0_2, .slice (some ad291) l0_3.length c0_3] 36 (0, 0)) (by (with_reducible repeat (first | refine blk_drewN ?_ _ | refine blk_drew ?_ | refine blk_alloc ?_ _)); exact BK290.out)) : gb292 ≠ gb290)); clear BK290; clear HB; have BK290 := n0_; have HB := n1_; have BK292 := n2_; have GW292 := n3_; have GE292 := n4_; have NB290_292 := n5_; have NB292_290 := n6_; clear n0_ n1_ n2_ n3_ n4_ n5_ n6_; clear hb hbox hg; have hnb17 := NB292_290.out; have hnc17 := NB290_292.out; have hcz18_0 : w16.cell? ⟨gb292, 0, none⟩ = some (.slice none 0 0) := (blk_cell BK292.out 0).trans rfl; have hcz18_1 : w16.cell? ⟨gb292, 1, none⟩ = some (.int .u8 0) := (blk_cell BK292.out 1).trans rfl; have hcz18_2 : w16.cell? ⟨gb292, 2, none⟩ = some (.int .i64 0) := (blk_cell BK292.out 2).trans rfl; have hcz18_3 : w16.cell? ⟨gb292, 3, none⟩ = some (.int .i64 0) := (blk_cell BK292.out 3).trans rfl; have hcz18_4 : w16.cell? ⟨gb292, 4, none⟩ = some (.int .i64 0) := (blk_cell BK292.out 4).trans rfl; have hfz18_0 := blk_frozen BK292.out 0; have hfz18_1 := blk_frozen BK292.out 1; have hfz18_2 := blk_frozen BK292.out 2; have hfz18_3 := blk_frozen BK292.out 3; have hfz18_4 := blk_frozen BK292.out 4))
          go_ret
          exact ⟨by first | rfl | (simp [errW_none, errW_some] <;> rfl) | (simp [*, errW_none, errW_some] <;> rfl), by repeat (first | (with_reducible first | exact HB.out | apply below_alloc | apply pw_below_drewN | apply below_drew1 | refine below_set ?_ GE290.out | refine below_set ?_ GE292.out) | exact HB.out)⟩
      · rw [if_neg c7] at H
        have c7b0 : (a2 == (((rd_T79 l0_3 a1).f0).length : Int)) = false := beq_eq_false_iff_ne.mpr c7
        have c7b1 : (a2 != (((rd_T79 l0_3 a1).f0).length : Int)) = true := bne_iff_ne.mpr c7
        by_cases c19 : 0 ≤ a2
        · rw [if_pos c19] at H
          have c19b0 : decide (0 ≤ a2) = true := decide_eq_true c19
          clear c19
          by_cases c20 : a2 < (((rd_T79 l0_3 a1).f0).length : Int)
          · rw [if_pos c20] at H
            have c20b0 : decide (a2 < (((rd_T79 l0_3 a1).f0).length : Int)) = true := decide_eq_true c20
            clear c20
            replace H := Option.bind_eq_some_iff.mp H
            obtain ⟨t294, A210, H⟩ := H
            replace H : (ontimeref19_uses.l0 k a3 t294 0) = some r := H
            have A21 := Aside0.mk A210
            clear A210
            have H' := Aside0.mk H
            clear H
            go_enter Try.func78, Try.ntmps78
            go_wp2_with (first | ((with_reducible refine gate_dst (N := 4) rfl ?_); refine box_event ?hg (N := 4) ?hd (cs := #[.string a0_0, .int .i64 a0_1, .slice A0_2 l0_2.length c0_2, .slice A0_3 l0_3.length c0_3]) (t := 36) ?hr ?_; (case hd => rfl); (case hg => rfl); (case hr => first | (go_simp; done) | (go_simp; rfl)); intro gb290 hg w22 hbox hb; have n0_ := Aside0.mk (below_step (by repeat (first | (with_reducible first | exact HB.out | apply below_alloc | apply pw_below_drewN | apply below_drew1) | exact HB.out)) hb); have n1_ := Aside0.mk (hbox); have n2_ := Aside0.mk ((by rw [hg]; exact (below_size (by repeat (first | (with_reducible first | exact HB.out | apply below_alloc | apply pw_below_drewN | apply below_drew1) | exact HB.out))) : w.heap.size ≤ gb290)); have n3_ := Aside0.mk ((by rw [hg]; exact (below_size (by repeat (first | (with_reducible first | exact HB.out | apply below_alloc | apply pw_below_drewN | apply below_drew1) | exact HB.out))) : w.heap.size ≤ gb290)); clear HB; have HB := n0_; have BK290 := n1_; have GW290 := n2_; have GE290 := n3_; clear n0_ n1_ n2_ n3_; clear hb hbox hg; have hcz23_0 : w22.cell? ⟨gb290, 0, none⟩ = some (.string a0_0) := (blk_cell BK290.out 0).trans rfl; have hcz23_1 : w22.cell? ⟨gb290, 1, none⟩ = some (.int .i64 a0_1) := (blk_cell BK290.out 1).trans rfl; have hcz23_2 : w22.cell? ⟨gb290, 2, none⟩ = some (.slice A0_2 l0_2.length c0_2) := (blk_cell BK290.out 2).trans rfl; have hcz23_3 : w22.cell? ⟨gb290, 3, none⟩ = some (.slice A0_3 l0_3.length c0_3) := (blk_cell BK290.out 3).trans rfl; have hfz23_0 := blk_frozen BK290.out 0; have hfz23_1 := blk_frozen BK290.out 1; have hfz23_2 := blk_frozen BK290.out 2; have hfz23_3 := blk_frozen BK290.out 3; have p291 : 0 ≤ (a1 : Int) := of_decide_eq_true (by first | (with_reducible assumption) | assumption); have q291 : a1 < (l0_3.length : Int) := of_decide_eq_true (by first | (with_reducible assumption) | assumption); obtain ⟨ad291, A291_0, c291_0, e291, hx291_0, hx291_1, hx291_2, hx291_3, hx291_4, hl291_0, hi291_0⟩ := at_T79 HR0_3.out a1 p291 q291; cases e291; replace hx291_0 := (HB.out.cell (World.block_lt_of_cell? w _ hx291_0)).trans hx291_0; replace hx291_1 := (HB.out.cell (World.block_lt_of_cell? w _ hx291_1)).trans hx291_1; replace hx291_2 := (HB.out.cell (World.block_lt_of_cell? w _ hx291_2)).trans hx291_2; replace hx291_3 := (HB.out.cell (World.block_lt_of_cell? w _ hx291_3)).trans hx291_3; replace hx291_4 := (HB.out.cell (World.block_lt_of_cell? w _ hx291_4)).trans hx291_4; have HR291_0 := Aside0.mk hi291_0; have HC291_0 := Aside0.mk hl291_0; clear hi291_0 hl291_0; replace p291 := eq_true p291; replace q291 := eq_true q291) | ((with_reducible refine gate_dst (N := 9) rfl ?_); refine box_event ?hg (N := 9) ?hd (cs := #[.slice none 0 0, .int .u8 0, .int .i64 0, .int .i64 0, .int .i64 0]) (t := 79) ?hr ?_; (case hd => rfl); (case hg => rfl); (case hr => first | (go_simp; done) | (go_simp; rfl)); intro gb292 hg w24 hbox hb; have n0_ := Aside0.mk (blk_below (g := gb290) (o := .cells #[.string a0_0, .int .i64 a0_1, .slice A0_2 l0_2.length c0_2, .slice (some ad291) l0_3.length c0_3] 36 (0, 0)) (by (with_reducible repeat (first | refine blk_drewN ?_ _ | refine blk_drew ?_ | refine blk_alloc ?_ _)); exact BK290.out) hb); have n1_ := Aside0.mk (below_step (by repeat (first | (with_reducible first | exact HB.out | apply below_alloc | apply pw_below_drewN | apply below_drew1 | refine below_set ?_ GE290.out) | exact HB.out)) hb); have n2_ := Aside0.mk (hbox); have n3_ := Aside0.mk ((by rw [hg]; exact (below_size (by repeat (first | (with_reducible first | exact HB.out | apply below_alloc | apply pw_below_drewN | apply below_drew1 | refine below_set ?_ GE290.out) | exact HB.out))) : w.heap.size ≤ gb292)); have n4_ := Aside0.mk ((by rw [hg]; exact (below_size (by repeat (first | (with_reducible first | exact HB.out | apply below_alloc | apply pw_below_drewN | apply below_drew1 | refine below_set ?_ GE290.out) | exact HB.out))) : w.heap.size ≤ gb292)); have n5_ := Aside0.mk ((by rw [hg]; exact Nat.ne_of_lt (blk_lt (g := gb290) (o := .cells #[.string a0_0, .int .i64 a0_1, .slice A0_2 l0_2.length c0_2, .slice (some ad291) l0_3.length c0_3] 36 (0, 0)) (by (with_reducible repeat (first | refine blk_drewN ?_ _ | refine blk_drew ?_ | refine blk_alloc ?_ _)); exact BK290.out)) : gb290 ≠ gb292)); have n6_ := Aside0.mk ((by rw [hg]; exact Nat.ne_of_gt (blk_lt (g := gb290) (o := .cells #[.string a0_0, .int .i64 a0_1, .slice A0_2 l0_2.length c0_2, .slice (some ad291) l0_3.length c0_3] 36 (0, 0)) (by (with_reducible repeat (first | refine blk_drewN ?_ _ | refine blk_drew ?_ | refine blk_alloc ?_ _)); exact BK290.out)) : gb292 ≠ gb290)); clear BK290; clear HB; have BK290 := n0_; have HB := n1_; have BK292 := n2_; have GW292 := n3_; have GE292 := n4_; have NB290_292 := n5_; have NB292_290 := n6_; clear n0_ n1_ n2_ n3_ n4_ n5_ n6_; clear hb hbox hg; have hnb25 := NB292_290.out; have hnc25 := NB290_292.out; have hcz26_0 : w24.cell? ⟨gb292, 0, none⟩ = some (.slice none 0 0) := (blk_cell BK292.out 0).trans rfl; have hcz26_1 : w24.cell? ⟨gb292, 1, none⟩ = some (.int .u8 0) := (blk_cell BK292.out 1).trans rfl; have hcz26_2 : w24.cell? ⟨gb292, 2, none⟩ = some (.int .i64 0) := (blk_cell BK292.out 2).trans rfl; have hcz26_3 : w24.cell? ⟨gb292, 3, none⟩ = some (.int .i64 0) := (blk_cell BK292.out 3).trans rfl; have hcz26_4 : w24.cell? ⟨gb292, 4, none⟩ = some (.int .i64 0) := (blk_cell BK292.out 4).trans rfl; have hfz26_0 := blk_frozen BK292.out 0; have hfz26_1 := blk_frozen BK292.out 1; have hfz26_2 := blk_frozen BK292.out 2; have hfz26_3 := blk_frozen BK292.out 3; have hfz26_4 := blk_frozen BK292.out 4; have p293 : 0 ≤ (a2 : Int) := of_decide_eq_true (by first | (with_reducible assumption) | assumption); have q293 : a2 < (((rd_T79 l0_3 a1).f0).length : Int) := of_decide_eq_true (by first | (with_reducible assumption) | assumption); obtain ⟨ad293, e293, hx293_0, hx293_1, hx293_2, hx293_3, hx293_4, hx293_5⟩ := at_T80 HR291_0.out a2 p293 q293; cases e293; have hn293_0 : ad293.block ≠ gb292 := Nat.ne_of_lt (Nat.lt_of_lt_of_le (by have := World.block_lt_of_cell? _ _ hx293_0; first | rwa [add_block] at this | exact this) GW292.out); have hn293_1 : ad293.block ≠ gb292 := Nat.ne_of_lt (Nat.lt_of_lt_of_le (by have := World.block_lt_of_cell? _ _ hx293_0; first | rwa [add_block] at this | exact this) GW292.out); have hn293_2 : ad293.block ≠ gb292 := Nat.ne_of_lt (Nat.lt_of_lt_of_le (by have := World.block_lt_of_cell? _ _ hx293_0; first | rwa [add_block] at this | exact this) GW292.out); have hn293_3 : ad293.block ≠ gb292 := Nat.ne_of_lt (Nat.lt_of_lt_of_le (by have := World.block_lt_of_cell? _ _ hx293_0; first | rwa [add_block] at this | exact this) GW292.out); have hn293_4 : ad293.block ≠ gb292 := Nat.ne_of_lt (Nat.lt_of_lt_of_le (by have := World.block_lt_of_cell? _ _ hx293_0; first | rwa [add_block] at this | exact this) GW292.out); replace hx293_0 := (HB.out.cell (World.block_lt_of_cell? w _ hx293_0)).trans hx293_0; replace hx293_1 := (HB.out.cell (World.block_lt_of_cell? w _ hx293_1)).trans hx293_1; replace hx293_2 := (HB.out.cell (World.block_lt_of_cell? w _ hx293_2)).trans hx293_2; replace hx293_3 := (HB.out.cell (World.block_lt_of_cell? w _ hx293_3)).trans hx293_3; replace hx293_4 := (HB.out.cell (World.block_lt_of_cell? w _ hx293_4)).trans hx293_4; replace hx293_5 := (HB.out.cell (World.block_lt_of_cell? w _ hx293_5)).trans hx293_5; replace hx293_0 := (cell_far (p := ⟨gb292, 0, none⟩) (by first | (rw [add_block]; exact hn293_0) | (show (Addr.add _ _).block ≠ _; rw [add_block]; exact hn293_0) | exact hn293_0) (.slice (some ad293) ((rd_T79 l0_3 a1).f0).length c291_0)).trans hx293_0; replace hx293_1 := (cell_far (p := ⟨gb292, 0, none⟩) (by first | (rw [add_block]; exact hn293_0) | (show (Addr.add _ _).block ≠ _; rw [add_block]; exact hn293_0) | exact hn293_0) (.slice (some ad293) ((rd_T79 l0_3 a1).f0).length c291_0)).trans hx293_1; replace hx293_2 := (cell_far (p := ⟨gb292, 0, none⟩) (by first | (rw [add_block]; exact hn293_0) | (show (Addr.add _ _).block ≠ _; rw [add_block]; exact hn293_0) | exact hn293_0) (.slice (some ad293) ((rd_T79 l0_3 a1).f0).length c291_0)).trans hx293_2; replace hx293_3 := (cell_far (p := ⟨gb292, 0, none⟩) (by first | (rw [add_block]; exact hn293_0) | (show (Addr.add _ _).block ≠ _; rw [add_block]; exact hn293_0) | exact hn293_0) (.slice (some ad293) ((rd_T79 l0_3 a1).f0).length c291_0)).trans hx293_3; replace hx293_4 := (cell_far (p := ⟨gb292, 0, none⟩) (by first | (rw [add_block]; exact hn293_0) | (show (Addr.add _ _).block ≠ _; rw [add_block]; exact hn293_0) | exact hn293_0) (.slice (some ad293) ((rd_T79 l0_3 a1).f0).length c291_0)).trans hx293_4; replace hx293_5 := (cell_far (p := ⟨gb292, 0, none⟩) (by first | (rw [add_block]; exact hn293_0) | (show (Addr.add _ _).block ≠ _; rw [add_block]; exact hn293_0) | exact hn293_0) (.slice (some ad293) ((rd_T79 l0_3 a1).f0).length c291_0)).trans hx293_5; replace hx293_0 := (cell_far (p := ⟨gb292, 1, none⟩) (by first | (rw [add_block]; exact hn293_1) | (show (Addr.add _ _).block ≠ _; rw [add_block]; exact hn293_1) | exact hn293_1) (.int .u8 ((rd_T79 l0_3 a1).f1))).trans hx293_0; replace hx293_1 := (cell_far (p := ⟨gb292, 1, none⟩) (by first | (rw [add_block]; exact hn293_1) | (show (Addr.add _ _).block ≠ _; rw [add_block]; exact hn293_1) | exact hn293_1) (.int .u8 ((rd_T79 l0_3 a1).f1))).trans hx293_1; replace hx293_2 := (cell_far (p := ⟨gb292, 1, none⟩) (by first | (rw [add_block]; exact hn293_1) | (show (Addr.add _ _).block ≠ _; rw [add_block]; exact hn293_1) | exact hn293_1) (.int .u8 ((rd_T79 l0_3 a1).f1))).trans hx293_2; replace hx293_3 := (cell_far (p := ⟨gb292, 1, none⟩) (by first | (rw [add_block]; exact hn293_1) | (show (Addr.add _ _).block ≠ _; rw [add_block]; exact hn293_1) | exact hn293_1) (.int .u8 ((rd_T79 l0_3 a1).f1))).trans hx293_3; replace hx293_4 := (cell_far (p := ⟨gb292, 1, none⟩) (by first | (rw [add_block]; exact hn293_1) | (show (Addr.add _ _).block ≠ _; rw [add_block]; exact hn293_1) | exact hn293_1) (.int .u8 ((rd_T79 l0_3 a1).f1))).trans hx293_4; replace hx293_5 := (cell_far (p := ⟨gb292, 1, none⟩) (by first | (rw [add_block]; exact hn293_1) | (show (Addr.add _ _).block ≠ _; rw [add_block]; exact hn293_1) | exact hn293_1) (.int .u8 ((rd_T79 l0_3 a1).f1))).trans hx293_5; replace hx293_0 := (cell_far (p := ⟨gb292, 2, none⟩) (by first | (rw [add_block]; exact hn293_2) | (show (Addr.add _ _).block ≠ _; rw [add_block]; exact hn293_2) | exact hn293_2) (.int .i64 ((rd_T79 l0_3 a1).f2))).trans hx293_0; replace hx293_1 := (cell_far (p := ⟨gb292, 2, none⟩) (by first | (rw [add_block]; exact hn293_2) | (show (Addr.add _ _).block ≠ _; rw [add_block]; exact hn293_2) | exact hn293_2) (.int .i64 ((rd_T79 l0_3 a1).f2))).trans hx293_1; replace hx293_2 := (cell_far (p := ⟨gb292, 2, none⟩) (by first | (rw [add_block]; exact hn293_2) | (show (Addr.add _ _).block ≠ _; rw [add_block]; exact hn293_2) | exact hn293_2) (.int .i64 ((rd_T79 l0_3 a1).f2))).trans hx293_2; replace hx293_3 := (cell_far (p := ⟨gb292, 2, none⟩) (by first | (rw [add_block]; exact hn293_2) | (show (Addr.add _ _).block ≠ _; rw [add_block]; exact hn293_2) | exact hn293_2) (.int .i64 ((rd_T79 l0_3 a1).f2))).trans hx293_3; replace hx293_4 := (cell_far (p := ⟨gb292, 2, none⟩) (by first | (rw [add_block]; exact hn293_2) | (show (Addr.add _ _).block ≠ _; rw [add_block]; exact hn293_2) | exact hn293_2) (.int .i64 ((rd_T79 l0_3 a1).f2))).trans hx293_4; replace hx293_5 := (cell_far (p := ⟨gb292, 2, none⟩) (by first | (rw [add_block]; exact hn293_2) | (show (Addr.add _ _).block ≠ _; rw [add_block]; exact hn293_2) | exact hn293_2) (.int .i64 ((rd_T79 l0_3 a1).f2))).trans hx293_5; replace hx293_0 := (cell_far (p := ⟨gb292, 3, none⟩) (by first | (rw [add_block]; exact hn293_3) | (show (Addr.add _ _).block ≠ _; rw [add_block]; exact hn293_3) | exact hn293_3) (.int .i64 ((rd_T79 l0_3 a1).f3))).trans hx293_0; replace hx293_1 := (cell_far (p := ⟨gb292, 3, none⟩) (by first | (rw [add_block]; exact hn293_3) | (show (Addr.add _ _).block ≠ _; rw [add_block]; exact hn293_3) | exact hn293_3) (.int .i64 ((rd_T79 l0_3 a1).f3))).trans hx293_1; replace hx293_2 := (cell_far (p := ⟨gb292, 3, none⟩) (by first | (rw [add_block]; exact hn293_3) | (show (Addr.add _ _).block ≠ _; rw [add_block]; exact hn293_3) | exact hn293_3) (.int .i64 ((rd_T79 l0_3 a1).f3))).trans hx293_2; replace hx293_3 := (cell_far (p := ⟨gb292, 3, none⟩) (by first | (rw [add_block]; exact hn293_3) | (show (Addr.add _ _).block ≠ _; rw [add_block]; exact hn293_3) | exact hn293_3) (.int .i64 ((rd_T79 l0_3 a1).f3))).trans hx293_3; replace hx293_4 := (cell_far (p := ⟨gb292, 3, none⟩) (by first | (rw [add_block]; exact hn293_3) | (show (Addr.add _ _).block ≠ _; rw [add_block]; exact hn293_3) | exact hn293_3) (.int .i64 ((rd_T79 l0_3 a1).f3))).trans hx293_4; replace hx293_5 := (cell_far (p := ⟨gb292, 3, none⟩) (by first | (rw [add_block]; exact hn293_3) | (show (Addr.add _ _).block ≠ _; rw [add_block]; exact hn293_3) | exact hn293_3) (.int .i64 ((rd_T79 l0_3 a1).f3))).trans hx293_5; replace hx293_0 := (cell_far (p := ⟨gb292, 4, none⟩) (by first | (rw [add_block]; exact hn293_4) | (show (Addr.add _ _).block ≠ _; rw [add_block]; exact hn293_4) | exact hn293_4) (.int .i64 ((rd_T79 l0_3 a1).f4))).trans hx293_0; replace hx293_1 := (cell_far (p := ⟨gb292, 4, none⟩) (by first | (rw [add_block]; exact hn293_4) | (show (Addr.add _ _).block ≠ _; rw [add_block]; exact hn293_4) | exact hn293_4) (.int .i64 ((rd_T79 l0_3 a1).f4))).trans hx293_1; replace hx293_2 := (cell_far (p := ⟨gb292, 4, none⟩) (by first | (rw [add_block]; exact hn293_4) | (show (Addr.add _ _).block ≠ _; rw [add_block]; exact hn293_4) | exact hn293_4) (.int .i64 ((rd_T79 l0_3 a1).f4))).trans hx293_2; replace hx293_3 := (cell_far (p := ⟨gb292, 4, none⟩) (by first | (rw [add_block]; exact hn293_4) | (show (Addr.add _ _).block ≠ _; rw [add_block]; exact hn293_4) | exact hn293_4) (.int .i64 ((rd_T79 l0_3 a1).f4))).trans hx293_3; replace hx293_4 := (cell_far (p := ⟨gb292, 4, none⟩) (by first | (rw [add_block]; exact hn293_4) | (show (Addr.add _ _).block ≠ _; rw [add_block]; exact hn293_4) | exact hn293_4) (.int .i64 ((rd_T79 l0_3 a1).f4))).trans hx293_4; replace hx293_5 := (cell_far (p := ⟨gb292, 4, none⟩) (by first | (rw [add_block]; exact hn293_4) | (show (Addr.add _ _).block ≠ _; rw [add_block]; exact hn293_4) | exact hn293_4) (.int .i64 ((rd_T79 l0_3 a1).f4))).trans hx293_5; clear hn293_0; clear hn293_1; clear hn293_2; clear hn293_3; clear hn293_4; replace p293 := eq_true p293; replace q293 := eq_true q293) | ((with_reducible refine gate_callee (f := 65) rfl ?_); refine goesL_ (some 36) rfl rfl Try.func65 (by kernel_rfl) rfl #[.agg #[.int .u8 ((rd_T80 ((rd_T79 l0_3 a1).f0) a2).f0), .int .i64 ((rd_T80 ((rd_T79 l0_3 a1).f0) a2).f1), .int .i64 ((rd_T80 ((rd_T79 l0_3 a1).f0) a2).f2), .int .i64 ((rd_T80 ((rd_T79 l0_3 a1).f0) a2).f3), .int .i64 ((rd_T80 ((rd_T79 l0_3 a1).f0) a2).f4), .string ((rd_T80 ((rd_T79 l0_3 a1).f0) a2).f5)]] rfl (by (try simp only [List.map_toArray, List.map_cons, List.map_nil]); first | done | rfl | (simp only [List.length_drop, List.length_take]; rfl)) ?_; (with_reducible refine (ontimeref17_Uses.calls k ((rd_T80 ((rd_T79 l0_3 a1).f0) a2).f0) ((rd_T80 ((rd_T79 l0_3 a1).f0) a2).f1) ((rd_T80 ((rd_T79 l0_3 a1).f0) a2).f2) ((rd_T80 ((rd_T79 l0_3 a1).f0) a2).f3) ((rd_T80 ((rd_T79 l0_3 a1).f0) a2).f4) ((rd_T80 ((rd_T79 l0_3 a1).f0) a2).f5) t294 _ A21.out).mono ?_); rintro e w27 ⟨v295, rfl, ho0, hb⟩; refine ⟨_, rfl, ?_⟩; have n0_ := Aside0.mk (Kd.R_lower ho0 (below_size (by repeat (first | (with_reducible first | exact HB.out | apply below_alloc | apply pw_below_drewN | apply below_drew1 | refine below_set ?_ GE290.out | refine below_set ?_ GE292.out) | exact HB.out)))); have n1_ := Aside0.mk (blk_below (g := gb290) (o := .cells #[.string a0_0, .int .i64 a0_1, .slice A0_2 l0_2.length c0_2, .slice (some ad291) l0_3.length c0_3] 36 (0, 0)) (by (with_reducible repeat (first | refine blk_drewN ?_ _ | refine blk_drew ?_ | refine blk_alloc ?_ _)); refine blk_far ?_ NB290_292.out _; (with_reducible repeat (first | refine blk_drewN ?_ _ | refine blk_drew ?_ | refine blk_alloc ?_ _)); refine blk_far ?_ NB290_292.out _; (with_reducible repeat (first | refine blk_drewN ?_ _ | refine blk_drew ?_ | refine blk_alloc ?_ _)); refine blk_far ?_ NB290_292.out _; (with_reducible repeat (first | refine blk_drewN ?_ _ | refine blk_drew ?_ | refine blk_alloc ?_ _)); refine blk_far ?_ NB290_292.out _; (with_reducible repeat (first | refine blk_drewN ?_ _ | refine blk_drew ?_ | refine blk_alloc ?_ _)); refine blk_far ?_ NB290_292.out _; (with_reducible repeat (first | refine blk_drewN ?_ _ | refine blk_drew ?_ | refine blk_alloc ?_ _)); exact BK290.out) hb); have n2_ := Aside0.mk (blk_below (g := gb292) (o := .cells #[.slice (some ad293) ((rd_T79 l0_3 a1).f0).length c291_0, .int .u8 ((rd_T79 l0_3 a1).f1), .int .i64 ((rd_T79 l0_3 a1).f2), .int .i64 ((rd_T79 l0_3 a1).f3), .int .i64 ((rd_T79 l0_3 a1).f4)] 79 (0, 0)) (by (with_reducible repeat (first | refine blk_drewN ?_ _ | refine blk_drew ?_ | refine blk_alloc ?_ _)); refine blk_put (cs := #[.slice (some ad293) ((rd_T79 l0_3 a1).f0).length c291_0, .int .u8 ((rd_T79 l0_3 a1).f1), .int .i64 ((rd_T79 l0_3 a1).f2), .int .i64 ((rd_T79 l0_3 a1).f3), .int .i64 0]) ?_ 4 _ rfl; (with_reducible repeat (first | refine blk_drewN ?_ _ | refine blk_drew ?_ | refine blk_alloc ?_ _)); refine blk_put (cs := #[.slice (some ad293) ((rd_T79 l0_3 a1).f0).length c291_0, .int .u8 ((rd_T79 l0_3 a1).f1), .int .i64 ((rd_T79 l0_3 a1).f2), .int .i64 0, .int .i64 0]) ?_ 3 _ rfl; (with_reducible repeat (first | refine blk_drewN ?_ _ | refine blk_drew ?_ | refine blk_alloc ?_ _)); refine blk_put (cs := #[.slice (some ad293) ((rd_T79 l0_3 a1).f0).length c291_0, .int .u8 ((rd_T79 l0_3 a1).f1), .int .i64 0, .int .i64 0, .int .i64 0]) ?_ 2 _ rfl; (with_reducible repeat (first | refine blk_drewN ?_ _ | refine blk_drew ?_ | refine blk_alloc ?_ _)); refine blk_put (cs := #[.slice (some ad293) ((rd_T79 l0_3 a1).f0).length c291_0, .int .u8 0, .int .i64 0, .int .i64 0, .int .i64 0]) ?_ 1 _ rfl; (with_reducible repeat (first | refine blk_drewN ?_ _ | refine blk_drew ?_ | refine blk_alloc ?_ _)); refine blk_put (cs := #[.slice none 0 0, .int .u8 0, .int .i64 0, .int .i64 0, .int .i64 0]) ?_ 0 _ rfl; (with_reducible repeat (first | refine blk_drewN ?_ _ | refine blk_drew ?_ | refine blk_alloc ?_ _)); exact BK292.out) hb); have n3_ := Aside0.mk (below_step (by repeat (first | (with_reducible first | exact HB.out | apply below_alloc | apply pw_below_drewN | apply below_drew1 | refine below_set ?_ GE290.out | refine below_set ?_ GE292.out) | exact HB.out)) hb); clear BK290; clear BK292; clear HB; have HO296 := n0_; have BK290 := n1_; have BK292 := n2_; have HB := n3_; clear n0_ n1_ n2_ n3_; (try clear hb); (try clear hb2); (try clear hk); (try clear hi); (try clear ho0)))
            go_loopg [11] k (fun kq v11 w' => ∃ (x11_1 : Int), v11 = .int .i64 x11_1 ∧ Aside0 (ontimeref19_uses.l0 kq a3 t294 x11_1 = some r) ∧ Aside0 (kq ≤ k) ∧ Aside0 (Kd.R (Kd.int .i64) 3 w' w.heap.size (fun _ => True) v295 t294) ∧ Aside0 (w'.heap[gb290]? = some (.cells #[.string a0_0, .int .i64 a0_1, (.slice A0_2 l0_2.length c0_2), (.slice (some ad291) l0_3.length c0_3)] 36 (0, 0))) ∧ Aside0 (w'.heap[gb292]? = some (.cells #[(.slice (some ad293) ((rd_T79 l0_3 a1).f0).length c291_0), .int .u8 ((rd_T79 l0_3 a1).f1), .int .i64 ((rd_T79 l0_3 a1).f2), .int .i64 ((rd_T79 l0_3 a1).f3), .int .i64 ((rd_T79 l0_3 a1).f4)] 79 (0, 0))) ∧ Aside0 (Below w.heap.size w w'))
            case atStart => exact ⟨(0), (by first | rfl | (simp; done) | (simp [*]; done)), H', ⟨Nat.le_refl _⟩, ⟨by (with_reducible repeat (first | apply Kd.R_alloc | apply Kd.R_drewN | apply Kd.R_drew)); exact HO296.out⟩, ⟨by (with_reducible repeat (first | refine blk_drewN ?_ _ | refine blk_drew ?_ | refine blk_alloc ?_ _)); exact BK290.out⟩, ⟨by (with_reducible repeat (first | refine blk_drewN ?_ _ | refine blk_drew ?_ | refine blk_alloc ?_ _)); exact BK292.out⟩, ⟨by repeat (first | (with_reducible first | exact HB.out | apply below_alloc | apply pw_below_drewN | apply below_drew1 | refine below_set ?_ GE290.out | refine below_set ?_ GE292.out) | exact HB.out)⟩⟩
            case round =>
              clear H'
              try clear c1
              try clear c2
              try clear p2
              try clear q2
              try clear hx2
              try clear c5
              try clear c5b0
              try clear c6
              try clear c6b0
              try clear c7
              try clear c7b0
              try clear c7b1
              try clear c8
              try clear c8b0
              try clear c8b1
              try clear c12
              try clear c17
              try clear c19
              try clear c19b0
              try clear c20
              try clear c20b0
              try clear c25
              try clear hcz10_0
              try clear hcz10_1
              try clear hcz10_2
              try clear hcz10_3
              try clear hcz13_0
              try clear hcz13_1
              try clear hcz13_2
              try clear hcz13_3
              try clear hcz13_4
              try clear hcz15_0
              try clear hcz15_1
              try clear hcz15_2
              try clear hcz15_3
              try clear hcz18_0
              try clear hcz18_1
              try clear hcz18_2
              try clear hcz18_3
              try clear hcz18_4
              try clear hcz23_0
              try clear hcz23_1
              try clear hcz23_2
              try clear hcz23_3
              try clear hcz26_0
              try clear hcz26_1
              try clear hcz26_2
              try clear hcz26_3
              try clear hcz26_4
              try clear hfz10_0
              try clear hfz10_1
              try clear hfz10_2
              try clear hfz10_3
              try clear hfz13_0
              try clear hfz13_1
              try clear hfz13_2
              try clear hfz13_3
              try clear hfz13_4
              try clear hfz15_0
              try clear hfz15_1
              try clear hfz15_2
              try clear hfz15_3
              try clear hfz18_0
              try clear hfz18_1
              try clear hfz18_2
              try clear hfz18_3
              try clear hfz18_4
              try clear hfz23_0
              try clear hfz23_1
              try clear hfz23_2
              try clear hfz23_3
              try clear hfz26_0
              try clear hfz26_1
              try clear hfz26_2
              try clear hfz26_3
              try clear hfz26_4
              try clear hx291_0
              try clear hx291_1
              try clear hx291_2
              try clear hx291_3
              try clear hx291_4
              try clear hx293_0
              try clear hx293_1
              try clear hx293_2
              try clear hx293_3
              try clear hx293_4
              try clear hx293_5
              try clear p291
              try clear p293
              try clear q291
              try clear q293
              obtain ⟨x11_1, rfl, HA, HK1, HO_10, BK290, BK292, HB⟩ := hrel
              cases gk with
              | zero => exact absurd HA.out (by simp [ontimeref19_uses.l0])
              | succ k1 =>
                have H := HA.out
                clear HA
                simp only [ontimeref19_uses.l0] at H
                by_cases c28 : x11_1 < (t294.length : Int)
                · rw [if_pos c28] at H
                  have c28b0 : decide (x11_1 < (t294.length : Int)) = true := decide_eq_true c28
                  clear c28
                  by_cases c29 : 0 ≤ x11_1
                  · rw [if_pos c29] at H
                    have c29b0 : decide (0 ≤ x11_1) = true := decide_eq_true c29
                    clear c29
                    by_cases c30 : (rd t294 x11_1) = a3
                    · rw [if_pos c30] at H
                      have c30b0 : ((rd t294 x11_1) == a3) = true := beq_iff_eq.mpr c30
                      have c30b1 : ((rd t294 x11_1) != a3) = false := bne_eq_false_iff_eq.mpr c30
                      clear c30
                      obtain rfl := Option.some.inj H
                      obtain ⟨Ao31, co31, eo31⟩ := Kd.R_slice HO_10.out
                      subst eo31
                      have p297 : 0 ≤ (x11_1 : Int) := of_decide_eq_true (by first | (with_reducible assumption) | assumption)
                      have q297 : x11_1 < (t294.length : Int) := of_decide_eq_true (by first | (with_reducible assumption) | assumption)
                      obtain ⟨ad297, e297, hx297_0⟩ := Kd.at_int (Kd.R_reads' HO_10.out).2.2 x11_1 p297 q297
                      cases e297
                      replace p297 := eq_true p297
                      replace q297 := eq_true q297
                      go_wp2
                      go_ret
                      exact ⟨by first | rfl | (simp [errW_none, errW_some] <;> rfl) | (simp [*, errW_none, errW_some] <;> rfl), by repeat (first | (with_reducible first | exact HB.out | apply below_alloc | apply pw_below_drewN | apply below_drew1 | refine below_set ?_ GE290.out | refine below_set ?_ GE292.out) | exact HB.out)⟩
                    · rw [if_neg c30] at H
                      have c30b0 : ((rd t294 x11_1) == a3) = false := beq_eq_false_iff_ne.mpr c30
                      have c30b1 : ((rd t294 x11_1) != a3) = true := bne_iff_ne.mpr c30
                      have H' := Aside0.mk H
                      clear H
                      obtain ⟨Ao32, co32, eo32⟩ := Kd.R_slice HO_10.out
                      subst eo32
                      have p297 : 0 ≤ (x11_1 : Int) := of_decide_eq_true (by first | (with_reducible assumption) | assumption)
                      have q297 : x11_1 < (t294.length : Int) := of_decide_eq_true (by first | (with_reducible assumption) | assumption)
                      obtain ⟨ad297, e297, hx297_0⟩ := Kd.at_int (Kd.R_reads' HO_10.out).2.2 x11_1 p297 q297
                      cases e297
                      replace p297 := eq_true p297
                      replace q297 := eq_true q297
                      go_wp2
                      go_roundg k1
                      case measure => have := HK1.out; omega
                      case rel => exact ⟨(wrap64 (x11_1 + 1)), (by first | rfl | (simp; done) | (simp [*]; done)), H', ⟨by have := HK1.out; omega⟩, ⟨by (with_reducible repeat (first | apply Kd.R_alloc | apply Kd.R_drewN | apply Kd.R_drew)); exact HO_10.out⟩, ⟨by (with_reducible repeat (first | refine blk_drewN ?_ _ | refine blk_drew ?_ | refine blk_alloc ?_ _)); exact BK290.out⟩, ⟨by (with_reducible repeat (first | refine blk_drewN ?_ _ | refine blk_drew ?_ | refine blk_alloc ?_ _)); exact BK292.out⟩, ⟨by repeat (first | (with_reducible first | exact HB.out | apply below_alloc | apply pw_below_drewN | apply below_drew1 | refine below_set ?_ GE290.out | refine below_set ?_ GE292.out) | exact HB.out)⟩⟩
                  · rw [if_neg c29] at H
                    exact absurd H (by simp)
                · rw [if_neg c28] at H
                  have c28b0 : decide (x11_1 < (t294.length : Int)) = false := decide_eq_false c28
                  clear c28
                  obtain rfl := Option.some.inj H
                  obtain ⟨Ao33, co33, eo33⟩ := Kd.R_slice HO_10.out
                  subst eo33
                  go_wp2
                  go_ret
                  exact ⟨by first | rfl | (simp [errW_none, errW_some] <;> rfl) | (simp [*, errW_none, errW_some] <;> rfl), by repeat (first | (with_reducible first | exact HB.out | apply below_alloc | apply pw_below_drewN | apply below_drew1 | refine below_set ?_ GE290.out | refine below_set ?_ GE292.out) | exact HB.out)⟩
          · rw [if_neg c20] at H
            exact absurd H (by simp)
        · rw [if_neg c19] at H
          exact absurd H (by simp)
    · rw [if_neg c6] at H
      exact absurd H (by simp)
  · rw [if_neg c5] at H
    exact absurd H (by simp)
def ontimeref19_reaches.l0 : Nat → Int → Int → Int → ByteArray → Int → List (S107) → List (S79) → Option (Bool × Bool)
  | 0, _, _, _, _, _, _, _ => none
  | k + 1, x1, x3, x10, x299000, x299001, x299002, x299003 => if 0 ≤ x1 then (if x1 < (x299003.length : Int) then (if x10 ≤ (((rd_T79 x299003 x1).f0).length : Int) then ((ontimeref19_uses.f k x299000 x299001 x299002 x299003 x1 x10 x3).bind fun t300 => (if t300 = true then (some (true, false)) else ((ontimeref19_defines.f k x299000 x299001 x299002 x299003 x1 x10 x3).bind fun t301 => (if t301 = true then (some (false, false)) else (ontimeref19_reaches.l0 k x1 x3 (wrap64 (x10 + 1)) x299000 x299001 x299002 x299003))))) else (some (false, true))) else (none)) else (none)
def ontimeref19_reaches.f (k : Nat) (a0_0 : ByteArray) (a0_1 : Int) (l0_2 : List (S107)) (l0_3 : List (S79)) (a1 : Int) (a2 : Int) (a3 : Int) : Option (Bool × Bool) := ontimeref19_reaches.l0 k a1 a3 a2 a0_0 a0_1 l0_2 l0_3
theorem ontimeref19_reaches.mono_l : ∀ k, (∀ y0 y1 y2 y3 y4 y5 y6, LeO (ontimeref19_reaches.l0 k y0 y1 y2 y3 y4 y5 y6) (ontimeref19_reaches.l0 (k + 1) y0 y1 y2 y3 y4 y5 y6))
  | 0 => fun _ _ _ _ _ _ _ r h => by simp [ontimeref19_reaches.l0] at h
  | k + 1 => by
    have ih0 := ontimeref19_reaches.mono_l k
    · intro y0 y1 y2 y3 y4 y5 y6
      unfold ontimeref19_reaches.l0
      repeat' first
      | (with_reducible exact ih0 _ _ _ _ _ _ _)
      | (with_reducible exact ontimeref19_defines.mono _ _ _ _ _ _ _ _)
      | (with_reducible exact ontimeref19_uses.mono _ _ _ _ _ _ _ _)
      | (with_reducible exact LeO.refl _)
      | (with_reducible exact LeO.none _)
      | (with_reducible refine LeO.ite ?_ ?_)
      | (with_reducible refine LeO.bind ?_ (fun _ => ?_))
      | exact ih0 _ _ _ _ _ _ _
      | exact ontimeref19_defines.mono _ _ _ _ _ _ _ _
      | exact ontimeref19_uses.mono _ _ _ _ _ _ _ _
      | exact LeO.none _
      | refine LeO.ite ?_ ?_
      | refine LeO.bind ?_ (fun _ => ?_)
theorem ontimeref19_reaches.mono : ∀ a0 a1 a2 a3 a4 a5 a6 k, LeO (ontimeref19_reaches.f k a0 a1 a2 a3 a4 a5 a6) (ontimeref19_reaches.f (k + 1) a0 a1 a2 a3 a4 a5 a6) := by
  intro a0 a1 a2 a3 a4 a5 a6 k
  have ih0 := ontimeref19_reaches.mono_l k
  unfold ontimeref19_reaches.f
  repeat' first
      | (with_reducible exact ih0 _ _ _ _ _ _ _)
      | (with_reducible exact ontimeref19_defines.mono _ _ _ _ _ _ _ _)
      | (with_reducible exact ontimeref19_uses.mono _ _ _ _ _ _ _ _)
      | (with_reducible exact LeO.refl _)
      | (with_reducible exact LeO.none _)
      | (with_reducible refine LeO.ite ?_ ?_)
      | (with_reducible refine LeO.bind ?_ (fun _ => ?_))
      | exact ih0 _ _ _ _ _ _ _
      | exact ontimeref19_defines.mono _ _ _ _ _ _ _ _
      | exact ontimeref19_uses.mono _ _ _ _ _ _ _ _
      | exact LeO.none _
      | refine LeO.ite ?_ ?_
      | refine LeO.bind ?_ (fun _ => ?_)
set_option maxHeartbeats 8000000 in
set_option maxRecDepth 100000 in
theorem ontimeref19_reaches.calls (k : Nat) (a0_0 : ByteArray) (a0_1 : Int) (A0_2 : Option Addr) (c0_2 : Nat) (l0_2 : List (S107)) (A0_3 : Option Addr) (c0_3 : Nat) (l0_3 : List (S79)) (a1 : Int) (a2 : Int) (a3 : Int) (r1 : Bool) (r2 : Bool) (w : World) (hr0_2 : Kd.C k107 w A0_2 l0_2.length l0_2) (hc0_2 : l0_2.length ≤ c0_2) (hr0_3 : Kd.C k79 w A0_3 l0_3.length l0_3) (hc0_3 : l0_3.length ≤ c0_3) (h : ontimeref19_reaches.f k a0_0 a0_1 l0_2 l0_3 a1 a2 a3 = some (r1, r2)) :
    Calls Try.prog 69 #[.agg #[.string a0_0, .int .i64 a0_1, .slice A0_2 l0_2.length c0_2, .slice A0_3 l0_3.length c0_3], .int .i64 a1, .int .i64 a2, .int .i64 a3] w fun e w' => e = .returned (.tuple #[.bool r1, .bool r2]) ∧ Below w.heap.size w w' := by
  have hu36 := Try.underlying36
  have HR0_2 := Aside0.mk hr0_2
  have HC0_2 := Aside0.mk hc0_2
  clear hr0_2 hc0_2
  have HR0_3 := Aside0.mk hr0_3
  have HC0_3 := Aside0.mk hc0_3
  clear hr0_3 hc0_3
  have HB := Aside0.mk (Below.refl w.heap.size w)
  have H : (ontimeref19_reaches.l0 k a1 a3 a2 a0_0 a0_1 l0_2 l0_3) = some (r1, r2) := h
  clear h
  have H' := Aside0.mk H
  clear H
  go_enter Try.func69, Try.ntmps69
  go_wp2_with (first | ((with_reducible refine gate_dst (N := 4) rfl ?_); refine box_event ?hg (N := 4) ?hd (cs := #[.string a0_0, .int .i64 a0_1, .slice A0_2 l0_2.length c0_2, .slice A0_3 l0_3.length c0_3]) (t := 36) ?hr ?_; (case hd => rfl); (case hg => rfl); (case hr => first | (go_simp; done) | (go_simp; rfl)); intro gb298 hg w5 hbox hb; have n0_ := Aside0.mk (below_step (by repeat (first | (with_reducible first | exact HB.out | apply below_alloc | apply pw_below_drewN | apply below_drew1) | exact HB.out)) hb); have n1_ := Aside0.mk (hbox); have n2_ := Aside0.mk ((by rw [hg]; exact (below_size (by repeat (first | (with_reducible first | exact HB.out | apply below_alloc | apply pw_below_drewN | apply below_drew1) | exact HB.out))) : w.heap.size ≤ gb298)); have n3_ := Aside0.mk ((by rw [hg]; exact (below_size (by repeat (first | (with_reducible first | exact HB.out | apply below_alloc | apply pw_below_drewN | apply below_drew1) | exact HB.out))) : w.heap.size ≤ gb298)); clear HB; have HB := n0_; have BK298 := n1_; have GW298 := n2_; have GE298 := n3_; clear n0_ n1_ n2_ n3_; clear hb hbox hg))
  go_loopg [10] k (fun kq v10 w' => ∃ (x10_1 : Int), v10 = .int .i64 x10_1 ∧ Aside0 (ontimeref19_reaches.l0 kq a1 a3 x10_1 a0_0 a0_1 l0_2 l0_3 = some (r1, r2)) ∧ Aside0 (kq ≤ k) ∧ Aside0 (w'.heap[gb298]? = some (.cells #[.string a0_0, .int .i64 a0_1, (.slice A0_2 l0_2.length c0_2), (.slice A0_3 l0_3.length c0_3)] 36 (0, 0))) ∧ Aside0 (Below w.heap.size w w'))
  case atStart => exact ⟨(a2), (by first | rfl | (simp; done) | (simp [*]; done)), H', ⟨Nat.le_refl _⟩, ⟨by (with_reducible repeat (first | refine blk_drewN ?_ _ | refine blk_drew ?_ | refine blk_alloc ?_ _)); exact BK298.out⟩, ⟨by repeat (first | (with_reducible first | exact HB.out | apply below_alloc | apply pw_below_drewN | apply below_drew1 | refine below_set ?_ GE298.out) | exact HB.out)⟩⟩
  case round =>
    clear H'
    try clear p2
    obtain ⟨x10_1, rfl, HA, HK1, BK298, HB⟩ := hrel
    cases gk with
    | zero => exact absurd HA.out (by simp [ontimeref19_reaches.l0])
    | succ k1 =>
      have H := HA.out
      clear HA
      simp only [ontimeref19_reaches.l0] at H
      by_cases c6 : 0 ≤ a1
      · rw [if_pos c6] at H
        have c6b0 : decide (0 ≤ a1) = true := decide_eq_true c6
        clear c6
        by_cases c7 : a1 < (l0_3.length : Int)
        · rw [if_pos c7] at H
          have c7b0 : decide (a1 < (l0_3.length : Int)) = true := decide_eq_true c7
          clear c7
          by_cases c8 : x10_1 ≤ (((rd_T79 l0_3 a1).f0).length : Int)
          · rw [if_pos c8] at H
            have c8b0 : decide (x10_1 ≤ (((rd_T79 l0_3 a1).f0).length : Int)) = true := decide_eq_true c8
            clear c8
            replace H := Option.bind_eq_some_iff.mp H
            obtain ⟨t300, A90, H⟩ := H
            replace H : (if t300 = true then (some (true, false)) else ((ontimeref19_defines.f k1 a0_0 a0_1 l0_2 l0_3 a1 x10_1 a3).bind fun t301 => (if t301 = true then (some (false, false)) else (ontimeref19_reaches.l0 k1 a1 a3 (wrap64 (x10_1 + 1)) a0_0 a0_1 l0_2 l0_3)))) = some (r1, r2) := H
            have A9 := Aside0.mk A90
            clear A90
            by_cases c10 : t300 = true
            · subst c10
              have H1 : (some (true, false)) = some (r1, r2) := by rw [if_pos rfl] at H; exact H
              clear H
              have H := H1
              clear H1
              simp only [Option.some.injEq, Prod.mk.injEq] at H
              obtain ⟨rfl, rfl⟩ := H
              have hcz11_0 : wr.cell? ⟨gb298, 0, none⟩ = some (.string a0_0) := (blk_cell BK298.out 0).trans rfl
              have hcz11_1 : wr.cell? ⟨gb298, 1, none⟩ = some (.int .i64 a0_1) := (blk_cell BK298.out 1).trans rfl
              have hcz11_2 : wr.cell? ⟨gb298, 2, none⟩ = some (.slice A0_2 l0_2.length c0_2) := (blk_cell BK298.out 2).trans rfl
              have hcz11_3 : wr.cell? ⟨gb298, 3, none⟩ = some (.slice A0_3 l0_3.length c0_3) := (blk_cell BK298.out 3).trans rfl
              have hfz11_0 := blk_frozen BK298.out 0
              have hfz11_1 := blk_frozen BK298.out 1
              have hfz11_2 := blk_frozen BK298.out 2
              have hfz11_3 := blk_frozen BK298.out 3
              have p299 : 0 ≤ (a1 : Int) := of_decide_eq_true (by first | (with_reducible assumption) | assumption)
              have q299 : a1 < (l0_3.length : Int) := of_decide_eq_true (by first | (with_reducible assumption) | assumption)
              obtain ⟨ad299, A299_0, c299_0, e299, hx299_0, hx299_1, hx299_2, hx299_3, hx299_4, hl299_0, hi299_0⟩ := at_T79 HR0_3.out a1 p299 q299
              cases e299
              replace hx299_0 := (HB.out.cell (World.block_lt_of_cell? w _ hx299_0)).trans hx299_0
              replace hx299_1 := (HB.out.cell (World.block_lt_of_cell? w _ hx299_1)).trans hx299_1
              replace hx299_2 := (HB.out.cell (World.block_lt_of_cell? w _ hx299_2)).trans hx299_2
              replace hx299_3 := (HB.out.cell (World.block_lt_of_cell? w _ hx299_3)).trans hx299_3
              replace hx299_4 := (HB.out.cell (World.block_lt_of_cell? w _ hx299_4)).trans hx299_4
              have HR299_0 := Aside0.mk hi299_0
              have HC299_0 := Aside0.mk hl299_0
              clear hi299_0 hl299_0
              replace p299 := eq_true p299
              replace q299 := eq_true q299
              go_wp2_with (first | ((with_reducible refine gate_callee (f := 78) rfl ?_); refine goesL_ (some 27) rfl rfl Try.func78 (by kernel_rfl) rfl #[.agg #[.string a0_0, .int .i64 a0_1, .slice A0_2 l0_2.length c0_2, .slice (some ad299) l0_3.length c0_3], .int .i64 a1, .int .i64 x10_1, .int .i64 a3] rfl (by (try simp only [List.map_toArray, List.map_cons, List.map_nil]); first | done | rfl | (simp only [List.length_drop, List.length_take]; rfl)) ?_; (with_reducible refine (ontimeref19_uses.calls k1 a0_0 a0_1 _ _ l0_2 _ _ l0_3 a1 x10_1 a3 true _ ?side1 ?side2 ?side3 ?side4 A9.out).mono ?_); (case side1 => repeat (first | exact (Kd.C_below HR0_2.out HB.out) | (with_reducible refine Kd.C_alloc ?_ _) | (with_reducible refine Kd.C_drewN ?_ _) | (with_reducible refine Kd.C_drew ?_))); (case side2 => exact HC0_2.out); (case side3 => repeat (first | exact (Kd.C_below HR0_3.out HB.out) | (with_reducible refine Kd.C_alloc ?_ _) | (with_reducible refine Kd.C_drewN ?_ _) | (with_reducible refine Kd.C_drew ?_))); (case side4 => exact HC0_3.out); rintro e w12 ⟨rfl, hb⟩; refine ⟨_, rfl, ?_⟩; have n0_ := Aside0.mk (blk_below (g := gb298) (o := .cells #[.string a0_0, .int .i64 a0_1, .slice A0_2 l0_2.length c0_2, .slice (some ad299) l0_3.length c0_3] 36 (0, 0)) (by (with_reducible repeat (first | refine blk_drewN ?_ _ | refine blk_drew ?_ | refine blk_alloc ?_ _)); exact BK298.out) hb); have n1_ := Aside0.mk (below_step (by repeat (first | (with_reducible first | exact HB.out | apply below_alloc | apply pw_below_drewN | apply below_drew1 | refine below_set ?_ GE298.out) | exact HB.out)) hb); clear BK298; clear HB; have BK298 := n0_; have HB := n1_; clear n0_ n1_; (try clear hb); (try clear hb2); (try clear hk); (try clear hi)))
              go_ret2
              exact ⟨by first | rfl | (simp [errW_none, errW_some] <;> rfl) | (simp [*, errW_none, errW_some] <;> rfl), by repeat (first | (with_reducible first | exact HB.out | apply below_alloc | apply pw_below_drewN | apply below_drew1 | refine below_set ?_ GE298.out) | exact HB.out)⟩
            · replace c10 := Bool.eq_false_iff.mpr c10
              subst c10
              have H1 : ((ontimeref19_defines.f k1 a0_0 a0_1 l0_2 l0_3 a1 x10_1 a3).bind fun t301 => (if t301 = true then (some (false, false)) else (ontimeref19_reaches.l0 k1 a1 a3 (wrap64 (x10_1 + 1)) a0_0 a0_1 l0_2 l0_3))) = some (r1, r2) := by rw [if_neg (show ¬ (false = true) by decide)] at H; exact H
              clear H
              have H := H1
              clear H1
              replace H := Option.bind_eq_some_iff.mp H
              obtain ⟨t301, A130, H⟩ := H
              replace H : (if t301 = true then (some (false, false)) else (ontimeref19_reaches.l0 k1 a1 a3 (wrap64 (x10_1 + 1)) a0_0 a0_1 l0_2 l0_3)) = some (r1, r2) := H
              have A13 := Aside0.mk A130
              clear A130
              by_cases c14 : t301 = true
              · subst c14
                have H1 : (some (false, false)) = some (r1, r2) := by rw [if_pos rfl] at H; exact H
                clear H
                have H := H1
                clear H1
                simp only [Option.some.injEq, Prod.mk.injEq] at H
                obtain ⟨rfl, rfl⟩ := H
                have hcz15_0 : wr.cell? ⟨gb298, 0, none⟩ = some (.string a0_0) := (blk_cell BK298.out 0).trans rfl
                have hcz15_1 : wr.cell? ⟨gb298, 1, none⟩ = some (.int .i64 a0_1) := (blk_cell BK298.out 1).trans rfl
                have hcz15_2 : wr.cell? ⟨gb298, 2, none⟩ = some (.slice A0_2 l0_2.length c0_2) := (blk_cell BK298.out 2).trans rfl
                have hcz15_3 : wr.cell? ⟨gb298, 3, none⟩ = some (.slice A0_3 l0_3.length c0_3) := (blk_cell BK298.out 3).trans rfl
                have hfz15_0 := blk_frozen BK298.out 0
                have hfz15_1 := blk_frozen BK298.out 1
                have hfz15_2 := blk_frozen BK298.out 2
                have hfz15_3 := blk_frozen BK298.out 3
                have p299 : 0 ≤ (a1 : Int) := of_decide_eq_true (by first | (with_reducible assumption) | assumption)
                have q299 : a1 < (l0_3.length : Int) := of_decide_eq_true (by first | (with_reducible assumption) | assumption)
                obtain ⟨ad299, A299_0, c299_0, e299, hx299_0, hx299_1, hx299_2, hx299_3, hx299_4, hl299_0, hi299_0⟩ := at_T79 HR0_3.out a1 p299 q299
                cases e299
                replace hx299_0 := (HB.out.cell (World.block_lt_of_cell? w _ hx299_0)).trans hx299_0
                replace hx299_1 := (HB.out.cell (World.block_lt_of_cell? w _ hx299_1)).trans hx299_1
                replace hx299_2 := (HB.out.cell (World.block_lt_of_cell? w _ hx299_2)).trans hx299_2
                replace hx299_3 := (HB.out.cell (World.block_lt_of_cell? w _ hx299_3)).trans hx299_3
                replace hx299_4 := (HB.out.cell (World.block_lt_of_cell? w _ hx299_4)).trans hx299_4
                have HR299_0 := Aside0.mk hi299_0
                have HC299_0 := Aside0.mk hl299_0
                clear hi299_0 hl299_0
                replace p299 := eq_true p299
                replace q299 := eq_true q299
                go_wp2_with (first | ((with_reducible refine gate_callee (f := 78) rfl ?_); refine goesL_ (some 27) rfl rfl Try.func78 (by kernel_rfl) rfl #[.agg #[.string a0_0, .int .i64 a0_1, .slice A0_2 l0_2.length c0_2, .slice (some ad299) l0_3.length c0_3], .int .i64 a1, .int .i64 x10_1, .int .i64 a3] rfl (by (try simp only [List.map_toArray, List.map_cons, List.map_nil]); first | done | rfl | (simp only [List.length_drop, List.length_take]; rfl)) ?_; (with_reducible refine (ontimeref19_uses.calls k1 a0_0 a0_1 _ _ l0_2 _ _ l0_3 a1 x10_1 a3 false _ ?side1 ?side2 ?side3 ?side4 A9.out).mono ?_); (case side1 => repeat (first | exact (Kd.C_below HR0_2.out HB.out) | (with_reducible refine Kd.C_alloc ?_ _) | (with_reducible refine Kd.C_drewN ?_ _) | (with_reducible refine Kd.C_drew ?_))); (case side2 => exact HC0_2.out); (case side3 => repeat (first | exact (Kd.C_below HR0_3.out HB.out) | (with_reducible refine Kd.C_alloc ?_ _) | (with_reducible refine Kd.C_drewN ?_ _) | (with_reducible refine Kd.C_drew ?_))); (case side4 => exact HC0_3.out); rintro e w16 ⟨rfl, hb⟩; refine ⟨_, rfl, ?_⟩; have n0_ := Aside0.mk (blk_below (g := gb298) (o := .cells #[.string a0_0, .int .i64 a0_1, .slice A0_2 l0_2.length c0_2, .slice (some ad299) l0_3.length c0_3] 36 (0, 0)) (by (with_reducible repeat (first | refine blk_drewN ?_ _ | refine blk_drew ?_ | refine blk_alloc ?_ _)); exact BK298.out) hb); have n1_ := Aside0.mk (below_step (by repeat (first | (with_reducible first | exact HB.out | apply below_alloc | apply pw_below_drewN | apply below_drew1 | refine below_set ?_ GE298.out) | exact HB.out)) hb); clear BK298; clear HB; have BK298 := n0_; have HB := n1_; clear n0_ n1_; (try clear hb); (try clear hb2); (try clear hk); (try clear hi); have hcz17_0 : w16.cell? ⟨gb298, 0, none⟩ = some (.string a0_0) := (blk_cell BK298.out 0).trans rfl; have hcz17_1 : w16.cell? ⟨gb298, 1, none⟩ = some (.int .i64 a0_1) := (blk_cell BK298.out 1).trans rfl; have hcz17_2 : w16.cell? ⟨gb298, 2, none⟩ = some (.slice A0_2 l0_2.length c0_2) := (blk_cell BK298.out 2).trans rfl; have hcz17_3 : w16.cell? ⟨gb298, 3, none⟩ = some (.slice (some ad299) l0_3.length c0_3) := (blk_cell BK298.out 3).trans rfl; have hfz17_0 := blk_frozen BK298.out 0; have hfz17_1 := blk_frozen BK298.out 1; have hfz17_2 := blk_frozen BK298.out 2; have hfz17_3 := blk_frozen BK298.out 3) | ((with_reducible refine gate_callee (f := 54) rfl ?_); refine goesL_ (some 32) rfl rfl Try.func54 (by kernel_rfl) rfl #[.agg #[.string a0_0, .int .i64 a0_1, .slice A0_2 l0_2.length c0_2, .slice (some ad299) l0_3.length c0_3], .int .i64 a1, .int .i64 x10_1, .int .i64 a3] rfl (by (try simp only [List.map_toArray, List.map_cons, List.map_nil]); first | done | rfl | (simp only [List.length_drop, List.length_take]; rfl)) ?_; (with_reducible refine (ontimeref19_defines.calls k1 a0_0 a0_1 _ _ l0_2 _ _ l0_3 a1 x10_1 a3 true _ ?side1 ?side2 ?side3 ?side4 A13.out).mono ?_); (case side1 => repeat (first | exact (Kd.C_below HR0_2.out HB.out) | (with_reducible refine Kd.C_alloc ?_ _) | (with_reducible refine Kd.C_drewN ?_ _) | (with_reducible refine Kd.C_drew ?_))); (case side2 => exact HC0_2.out); (case side3 => repeat (first | exact (Kd.C_below HR0_3.out HB.out) | (with_reducible refine Kd.C_alloc ?_ _) | (with_reducible refine Kd.C_drewN ?_ _) | (with_reducible refine Kd.C_drew ?_))); (case side4 => exact HC0_3.out); rintro e w18 ⟨rfl, hb⟩; refine ⟨_, rfl, ?_⟩; have n0_ := Aside0.mk (blk_below (g := gb298) (o := .cells #[.string a0_0, .int .i64 a0_1, .slice A0_2 l0_2.length c0_2, .slice (some ad299) l0_3.length c0_3] 36 (0, 0)) (by (with_reducible repeat (first | refine blk_drewN ?_ _ | refine blk_drew ?_ | refine blk_alloc ?_ _)); exact BK298.out) hb); have n1_ := Aside0.mk (below_step (by repeat (first | (with_reducible first | exact HB.out | apply below_alloc | apply pw_below_drewN | apply below_drew1 | refine below_set ?_ GE298.out) | exact HB.out)) hb); clear BK298; clear HB; have BK298 := n0_; have HB := n1_; clear n0_ n1_; (try clear hb); (try clear hb2); (try clear hk); (try clear hi)))
                go_ret2
                exact ⟨by first | rfl | (simp [errW_none, errW_some] <;> rfl) | (simp [*, errW_none, errW_some] <;> rfl), by repeat (first | (with_reducible first | exact HB.out | apply below_alloc | apply pw_below_drewN | apply below_drew1 | refine below_set ?_ GE298.out) | exact HB.out)⟩
              · replace c14 := Bool.eq_false_iff.mpr c14
                subst c14
                have H1 : (ontimeref19_reaches.l0 k1 a1 a3 (wrap64 (x10_1 + 1)) a0_0 a0_1 l0_2 l0_3) = some (r1, r2) := by rw [if_neg (show ¬ (false = true) by decide)] at H; exact H
                clear H
                have H := H1
                clear H1
                have H' := Aside0.mk H
                clear H
                have hcz19_0 : wr.cell? ⟨gb298, 0, none⟩ = some (.string a0_0) := (blk_cell BK298.out 0).trans rfl
                have hcz19_1 : wr.cell? ⟨gb298, 1, none⟩ = some (.int .i64 a0_1) := (blk_cell BK298.out 1).trans rfl
                have hcz19_2 : wr.cell? ⟨gb298, 2, none⟩ = some (.slice A0_2 l0_2.length c0_2) := (blk_cell BK298.out 2).trans rfl
                have hcz19_3 : wr.cell? ⟨gb298, 3, none⟩ = some (.slice A0_3 l0_3.length c0_3) := (blk_cell BK298.out 3).trans rfl
                have hfz19_0 := blk_frozen BK298.out 0
                have hfz19_1 := blk_frozen BK298.out 1
                have hfz19_2 := blk_frozen BK298.out 2
                have hfz19_3 := blk_frozen BK298.out 3
                have p299 : 0 ≤ (a1 : Int) := of_decide_eq_true (by first | (with_reducible assumption) | assumption)
                have q299 : a1 < (l0_3.length : Int) := of_decide_eq_true (by first | (with_reducible assumption) | assumption)
                obtain ⟨ad299, A299_0, c299_0, e299, hx299_0, hx299_1, hx299_2, hx299_3, hx299_4, hl299_0, hi299_0⟩ := at_T79 HR0_3.out a1 p299 q299
                cases e299
                replace hx299_0 := (HB.out.cell (World.block_lt_of_cell? w _ hx299_0)).trans hx299_0
                replace hx299_1 := (HB.out.cell (World.block_lt_of_cell? w _ hx299_1)).trans hx299_1
                replace hx299_2 := (HB.out.cell (World.block_lt_of_cell? w _ hx299_2)).trans hx299_2
                replace hx299_3 := (HB.out.cell (World.block_lt_of_cell? w _ hx299_3)).trans hx299_3
                replace hx299_4 := (HB.out.cell (World.block_lt_of_cell? w _ hx299_4)).trans hx299_4
                have HR299_0 := Aside0.mk hi299_0
                have HC299_0 := Aside0.mk hl299_0
                clear hi299_0 hl299_0
                replace p299 := eq_true p299
                replace q299 := eq_true q299
                go_wp2_with (first | ((with_reducible refine gate_callee (f := 78) rfl ?_); refine goesL_ (some 27) rfl rfl Try.func78 (by kernel_rfl) rfl #[.agg #[.string a0_0, .int .i64 a0_1, .slice A0_2 l0_2.length c0_2, .slice (some ad299) l0_3.length c0_3], .int .i64 a1, .int .i64 x10_1, .int .i64 a3] rfl (by (try simp only [List.map_toArray, List.map_cons, List.map_nil]); first | done | rfl | (simp only [List.length_drop, List.length_take]; rfl)) ?_; (with_reducible refine (ontimeref19_uses.calls k1 a0_0 a0_1 _ _ l0_2 _ _ l0_3 a1 x10_1 a3 false _ ?side1 ?side2 ?side3 ?side4 A9.out).mono ?_); (case side1 => repeat (first | exact (Kd.C_below HR0_2.out HB.out) | (with_reducible refine Kd.C_alloc ?_ _) | (with_reducible refine Kd.C_drewN ?_ _) | (with_reducible refine Kd.C_drew ?_))); (case side2 => exact HC0_2.out); (case side3 => repeat (first | exact (Kd.C_below HR0_3.out HB.out) | (with_reducible refine Kd.C_alloc ?_ _) | (with_reducible refine Kd.C_drewN ?_ _) | (with_reducible refine Kd.C_drew ?_))); (case side4 => exact HC0_3.out); rintro e w20 ⟨rfl, hb⟩; refine ⟨_, rfl, ?_⟩; have n0_ := Aside0.mk (blk_below (g := gb298) (o := .cells #[.string a0_0, .int .i64 a0_1, .slice A0_2 l0_2.length c0_2, .slice (some ad299) l0_3.length c0_3] 36 (0, 0)) (by (with_reducible repeat (first | refine blk_drewN ?_ _ | refine blk_drew ?_ | refine blk_alloc ?_ _)); exact BK298.out) hb); have n1_ := Aside0.mk (below_step (by repeat (first | (with_reducible first | exact HB.out | apply below_alloc | apply pw_below_drewN | apply below_drew1 | refine below_set ?_ GE298.out) | exact HB.out)) hb); clear BK298; clear HB; have BK298 := n0_; have HB := n1_; clear n0_ n1_; (try clear hb); (try clear hb2); (try clear hk); (try clear hi); have hcz21_0 : w20.cell? ⟨gb298, 0, none⟩ = some (.string a0_0) := (blk_cell BK298.out 0).trans rfl; have hcz21_1 : w20.cell? ⟨gb298, 1, none⟩ = some (.int .i64 a0_1) := (blk_cell BK298.out 1).trans rfl; have hcz21_2 : w20.cell? ⟨gb298, 2, none⟩ = some (.slice A0_2 l0_2.length c0_2) := (blk_cell BK298.out 2).trans rfl; have hcz21_3 : w20.cell? ⟨gb298, 3, none⟩ = some (.slice (some ad299) l0_3.length c0_3) := (blk_cell BK298.out 3).trans rfl; have hfz21_0 := blk_frozen BK298.out 0; have hfz21_1 := blk_frozen BK298.out 1; have hfz21_2 := blk_frozen BK298.out 2; have hfz21_3 := blk_frozen BK298.out 3) | ((with_reducible refine gate_callee (f := 54) rfl ?_); refine goesL_ (some 32) rfl rfl Try.func54 (by kernel_rfl) rfl #[.agg #[.string a0_0, .int .i64 a0_1, .slice A0_2 l0_2.length c0_2, .slice (some ad299) l0_3.length c0_3], .int .i64 a1, .int .i64 x10_1, .int .i64 a3] rfl (by (try simp only [List.map_toArray, List.map_cons, List.map_nil]); first | done | rfl | (simp only [List.length_drop, List.length_take]; rfl)) ?_; (with_reducible refine (ontimeref19_defines.calls k1 a0_0 a0_1 _ _ l0_2 _ _ l0_3 a1 x10_1 a3 false _ ?side1 ?side2 ?side3 ?side4 A13.out).mono ?_); (case side1 => repeat (first | exact (Kd.C_below HR0_2.out HB.out) | (with_reducible refine Kd.C_alloc ?_ _) | (with_reducible refine Kd.C_drewN ?_ _) | (with_reducible refine Kd.C_drew ?_))); (case side2 => exact HC0_2.out); (case side3 => repeat (first | exact (Kd.C_below HR0_3.out HB.out) | (with_reducible refine Kd.C_alloc ?_ _) | (with_reducible refine Kd.C_drewN ?_ _) | (with_reducible refine Kd.C_drew ?_))); (case side4 => exact HC0_3.out); rintro e w22 ⟨rfl, hb⟩; refine ⟨_, rfl, ?_⟩; have n0_ := Aside0.mk (blk_below (g := gb298) (o := .cells #[.string a0_0, .int .i64 a0_1, .slice A0_2 l0_2.length c0_2, .slice (some ad299) l0_3.length c0_3] 36 (0, 0)) (by (with_reducible repeat (first | refine blk_drewN ?_ _ | refine blk_drew ?_ | refine blk_alloc ?_ _)); exact BK298.out) hb); have n1_ := Aside0.mk (below_step (by repeat (first | (with_reducible first | exact HB.out | apply below_alloc | apply pw_below_drewN | apply below_drew1 | refine below_set ?_ GE298.out) | exact HB.out)) hb); clear BK298; clear HB; have BK298 := n0_; have HB := n1_; clear n0_ n1_; (try clear hb); (try clear hb2); (try clear hk); (try clear hi)))
                go_roundg k1
                case measure => have := HK1.out; omega
                case rel => exact ⟨(wrap64 (x10_1 + 1)), (by first | rfl | (simp; done) | (simp [*]; done)), H', ⟨by have := HK1.out; omega⟩, ⟨by (with_reducible repeat (first | refine blk_drewN ?_ _ | refine blk_drew ?_ | refine blk_alloc ?_ _)); exact BK298.out⟩, ⟨by repeat (first | (with_reducible first | exact HB.out | apply below_alloc | apply pw_below_drewN | apply below_drew1 | refine below_set ?_ GE298.out) | exact HB.out)⟩⟩
          · rw [if_neg c8] at H
            have c8b0 : decide (x10_1 ≤ (((rd_T79 l0_3 a1).f0).length : Int)) = false := decide_eq_false c8
            clear c8
            simp only [Option.some.injEq, Prod.mk.injEq] at H
            obtain ⟨rfl, rfl⟩ := H
            have hcz23_0 : wr.cell? ⟨gb298, 0, none⟩ = some (.string a0_0) := (blk_cell BK298.out 0).trans rfl
            have hcz23_1 : wr.cell? ⟨gb298, 1, none⟩ = some (.int .i64 a0_1) := (blk_cell BK298.out 1).trans rfl
            have hcz23_2 : wr.cell? ⟨gb298, 2, none⟩ = some (.slice A0_2 l0_2.length c0_2) := (blk_cell BK298.out 2).trans rfl
            have hcz23_3 : wr.cell? ⟨gb298, 3, none⟩ = some (.slice A0_3 l0_3.length c0_3) := (blk_cell BK298.out 3).trans rfl
            have hfz23_0 := blk_frozen BK298.out 0
            have hfz23_1 := blk_frozen BK298.out 1
            have hfz23_2 := blk_frozen BK298.out 2
            have hfz23_3 := blk_frozen BK298.out 3
            have p299 : 0 ≤ (a1 : Int) := of_decide_eq_true (by first | (with_reducible assumption) | assumption)
            have q299 : a1 < (l0_3.length : Int) := of_decide_eq_true (by first | (with_reducible assumption) | assumption)
            obtain ⟨ad299, A299_0, c299_0, e299, hx299_0, hx299_1, hx299_2, hx299_3, hx299_4, hl299_0, hi299_0⟩ := at_T79 HR0_3.out a1 p299 q299
            cases e299
            replace hx299_0 := (HB.out.cell (World.block_lt_of_cell? w _ hx299_0)).trans hx299_0
            replace hx299_1 := (HB.out.cell (World.block_lt_of_cell? w _ hx299_1)).trans hx299_1
            replace hx299_2 := (HB.out.cell (World.block_lt_of_cell? w _ hx299_2)).trans hx299_2
            replace hx299_3 := (HB.out.cell (World.block_lt_of_cell? w _ hx299_3)).trans hx299_3
            replace hx299_4 := (HB.out.cell (World.block_lt_of_cell? w _ hx299_4)).trans hx299_4
            have HR299_0 := Aside0.mk hi299_0
            have HC299_0 := Aside0.mk hl299_0
            clear hi299_0 hl299_0
            replace p299 := eq_true p299
            replace q299 := eq_true q299
            go_wp2
            go_ret2
            exact ⟨by first | rfl | (simp [errW_none, errW_some] <;> rfl) | (simp [*, errW_none, errW_some] <;> rfl), by repeat (first | (with_reducible first | exact HB.out | apply below_alloc | apply pw_below_drewN | apply below_drew1 | refine below_set ?_ GE298.out) | exact HB.out)⟩
        · rw [if_neg c7] at H
          exact absurd H (by simp)
      · rw [if_neg c6] at H
        exact absurd H (by simp)
end Go.Proofs.Ythgodpmahdnnjaa.H
end
section
namespace Go.Proofs.Ythgodpmahdnnjaa.H
open Go.RowKit Go.Proofs.YthgodpmahdnnjaaW.PrintWords Go.Proofs.YthgodpmahdnnjaaW.PrintLast Go.Proofs.YthgodpmahdnnjaaW.PrintMore
set_option linter.unusedVariables false
set_option linter.unusedSimpArgs false
def ir_Succ.j0 : Nat → Bool → List (S62) → Int → Int → Int → Int → Option (List Int)
  | 0, _, _, _, _, _, _ => none
  | k + 1, x3, x102000, x102001, x102002, x102003, x102004 => if x3 = true then (some (([x102003] : List Int))) else (if x102001 = 2 then (some (([x102003, x102004] : List Int))) else (some ([] : List Int)))
def ir_Succ.f (k : Nat) (l0_0 : List (S62)) (a0_1 : Int) (a0_2 : Int) (a0_3 : Int) (a0_4 : Int) : Option (List Int) := if a0_1 = 1 then (ir_Succ.j0 k (a0_1 == 1) l0_0 a0_1 a0_2 a0_3 a0_4) else (if a0_1 = 2 then (ir_Succ.j0 k (a0_3 == a0_4) l0_0 a0_1 a0_2 a0_3 a0_4) else (ir_Succ.j0 k false l0_0 a0_1 a0_2 a0_3 a0_4))
theorem ir_Succ.mono_l : ∀ k, (∀ y0 y1 y2 y3 y4 y5, LeO (ir_Succ.j0 k y0 y1 y2 y3 y4 y5) (ir_Succ.j0 (k + 1) y0 y1 y2 y3 y4 y5))
  | 0 => fun _ _ _ _ _ _ r h => by simp [ir_Succ.j0] at h
  | k + 1 => by
    have ih0 := ir_Succ.mono_l k
    · intro y0 y1 y2 y3 y4 y5
      unfold ir_Succ.j0
      repeat' first
      | (with_reducible exact ih0 _ _ _ _ _ _)
      | (with_reducible exact LeO.refl _)
      | (with_reducible exact LeO.none _)
      | (with_reducible refine LeO.ite ?_ ?_)
      | (with_reducible refine LeO.bind ?_ (fun _ => ?_))
      | exact ih0 _ _ _ _ _ _
      | exact LeO.none _
      | refine LeO.ite ?_ ?_
      | refine LeO.bind ?_ (fun _ => ?_)
theorem ir_Succ.mono : ∀ a0 a1 a2 a3 a4 k, LeO (ir_Succ.f k a0 a1 a2 a3 a4) (ir_Succ.f (k + 1) a0 a1 a2 a3 a4) := by
  intro a0 a1 a2 a3 a4 k
  have ih0 := ir_Succ.mono_l k
  unfold ir_Succ.f
  repeat' first
      | (with_reducible exact ih0 _ _ _ _ _ _)
      | (with_reducible exact LeO.refl _)
      | (with_reducible exact LeO.none _)
      | (with_reducible refine LeO.ite ?_ ?_)
      | (with_reducible refine LeO.bind ?_ (fun _ => ?_))
      | exact ih0 _ _ _ _ _ _
      | exact LeO.none _
      | refine LeO.ite ?_ ?_
      | refine LeO.bind ?_ (fun _ => ?_)
set_option maxHeartbeats 8000000 in
set_option maxRecDepth 100000 in
theorem ir_Succ.calls (k : Nat) (A0_0 : Option Addr) (c0_0 : Nat) (l0_0 : List (S62)) (a0_1 : Int) (a0_2 : Int) (a0_3 : Int) (a0_4 : Int) (r : List Int) (w : World) (hr0_0 : Kd.C k62 w A0_0 l0_0.length l0_0) (hc0_0 : l0_0.length ≤ c0_0) (h : ir_Succ.f k l0_0 a0_1 a0_2 a0_3 a0_4 = some r) :
    Calls Try.prog 24 #[.agg #[.slice A0_0 l0_0.length c0_0, .int .u8 a0_1, .int .i64 a0_2, .int .i64 a0_3, .int .i64 a0_4]] w fun e w' => ∃ v0_ : Value, e = .returned (v0_) ∧ Kd.R (Kd.int .i64) 3 w' w.heap.size (fun _ => True) v0_ r ∧ Below w.heap.size w w' := by
  have hu43 := Try.underlying43
  have HR0_0 := Aside0.mk hr0_0
  have HC0_0 := Aside0.mk hc0_0
  clear hr0_0 hc0_0
  have HB := Aside0.mk (Below.refl w.heap.size w)
  have H : (if a0_1 = 1 then (ir_Succ.j0 k (a0_1 == 1) l0_0 a0_1 a0_2 a0_3 a0_4) else (if a0_1 = 2 then (ir_Succ.j0 k (a0_3 == a0_4) l0_0 a0_1 a0_2 a0_3 a0_4) else (ir_Succ.j0 k false l0_0 a0_1 a0_2 a0_3 a0_4))) = some r := h
  clear h
  have HC2 := Aside0.mk H
  clear H
  go_enter Try.func24, Try.ntmps24
  go_upto_if 3 with (first | ((with_reducible refine gate_dst (N := 1) rfl ?_); refine box_event ?hg (N := 1) ?hd (cs := #[.slice A0_0 l0_0.length c0_0, .int .u8 a0_1, .int .i64 a0_2, .int .i64 a0_3, .int .i64 a0_4]) (t := 43) ?hr ?_; (case hd => rfl); (case hg => rfl); (case hr => first | (go_simp; done) | (go_simp; rfl)); intro gb101 hg w3 hbox hb; have n0_ := Aside0.mk (below_step (by repeat (first | (with_reducible first | exact HB.out | apply below_alloc | apply pw_below_drewN | apply below_drew1) | exact HB.out)) hb); have n1_ := Aside0.mk (hbox); have n2_ := Aside0.mk ((by rw [hg]; exact (below_size (by repeat (first | (with_reducible first | exact HB.out | apply below_alloc | apply pw_below_drewN | apply below_drew1) | exact HB.out))) : w.heap.size ≤ gb101)); have n3_ := Aside0.mk ((by rw [hg]; exact (below_size (by repeat (first | (with_reducible first | exact HB.out | apply below_alloc | apply pw_below_drewN | apply below_drew1) | exact HB.out))) : w.heap.size ≤ gb101)); clear HB; have HB := n0_; have BK101 := n1_; have GW101 := n2_; have GE101 := n3_; clear n0_ n1_ n2_ n3_; clear hb hbox hg; have hcz4_0 : w3.cell? ⟨gb101, 0, none⟩ = some (.slice A0_0 l0_0.length c0_0) := (blk_cell BK101.out 0).trans rfl; have hcz4_1 : w3.cell? ⟨gb101, 1, none⟩ = some (.int .u8 a0_1) := (blk_cell BK101.out 1).trans rfl; have hcz4_2 : w3.cell? ⟨gb101, 2, none⟩ = some (.int .i64 a0_2) := (blk_cell BK101.out 2).trans rfl; have hcz4_3 : w3.cell? ⟨gb101, 3, none⟩ = some (.int .i64 a0_3) := (blk_cell BK101.out 3).trans rfl; have hcz4_4 : w3.cell? ⟨gb101, 4, none⟩ = some (.int .i64 a0_4) := (blk_cell BK101.out 4).trans rfl; have hfz4_0 := blk_frozen BK101.out 0; have hfz4_1 := blk_frozen BK101.out 1; have hfz4_2 := blk_frozen BK101.out 2; have hfz4_3 := blk_frozen BK101.out 3; have hfz4_4 := blk_frozen BK101.out 4))
  (try simp only [Act.put, List.setIfInBounds_toArray, List.set_cons_zero, List.set_cons_succ])
  go_cut [3] (fun v3 wc => ∃ (kq : Nat) (x3_1 : Bool), v3 = .bool x3_1 ∧ Aside0 (ir_Succ.j0 kq x3_1 l0_0 a0_1 a0_2 a0_3 a0_4 = some r) ∧ Aside0 (kq ≤ k) ∧ Aside0 (wc.heap[gb101]? = some (.cells #[(.slice A0_0 l0_0.length c0_0), .int .u8 a0_1, .int .i64 a0_2, .int .i64 a0_3, .int .i64 a0_4] 43 (0, 0))) ∧ Aside0 (Below w.heap.size w wc))
  case first =>
    have H := HC2.out
    clear HC2
    by_cases c5 : a0_1 = 1
    · rw [if_pos c5] at H
      have c5b0 : (a0_1 == 1) = true := beq_iff_eq.mpr c5
      have c5b1 : (a0_1 != 1) = false := bne_eq_false_iff_eq.mpr c5
      clear c5
      (first | rw [c5b0] | (simp only [i64_w, i32_w]; rw [c5b0]) | skip)
      have H' := Aside0.mk H
      clear H
      go_wp2
      go_meet
      case rel => exact ⟨_, ((a0_1 == 1)), (by first | rfl | (simp; done) | (simp [*]; done)), H', ⟨by first | omega | exact Nat.le_refl _⟩, ⟨by (with_reducible repeat (first | refine blk_drewN ?_ _ | refine blk_drew ?_ | refine blk_alloc ?_ _)); exact BK101.out⟩, ⟨by repeat (first | (with_reducible first | exact HB.out | apply below_alloc | apply pw_below_drewN | apply below_drew1 | refine below_set ?_ GE101.out) | exact HB.out)⟩⟩
    · rw [if_neg c5] at H
      have c5b0 : (a0_1 == 1) = false := beq_eq_false_iff_ne.mpr c5
      have c5b1 : (a0_1 != 1) = true := bne_iff_ne.mpr c5
      (first | rw [c5b0] | (simp only [i64_w, i32_w]; rw [c5b0]) | skip)
      by_cases c6 : a0_1 = 2
      · rw [if_pos c6] at H
        have c6b0 : (a0_1 == 2) = true := beq_iff_eq.mpr c6
        have c6b1 : (a0_1 != 2) = false := bne_eq_false_iff_eq.mpr c6
        clear c6
        have H' := Aside0.mk H
        clear H
        have hcz7_0 : w3.cell? ⟨gb101, 0, none⟩ = some (.slice A0_0 l0_0.length c0_0) := (blk_cell BK101.out 0).trans rfl
        have hcz7_1 : w3.cell? ⟨gb101, 1, none⟩ = some (.int .u8 a0_1) := (blk_cell BK101.out 1).trans rfl
        have hcz7_2 : w3.cell? ⟨gb101, 2, none⟩ = some (.int .i64 a0_2) := (blk_cell BK101.out 2).trans rfl
        have hcz7_3 : w3.cell? ⟨gb101, 3, none⟩ = some (.int .i64 a0_3) := (blk_cell BK101.out 3).trans rfl
        have hcz7_4 : w3.cell? ⟨gb101, 4, none⟩ = some (.int .i64 a0_4) := (blk_cell BK101.out 4).trans rfl
        have hfz7_0 := blk_frozen BK101.out 0
        have hfz7_1 := blk_frozen BK101.out 1
        have hfz7_2 := blk_frozen BK101.out 2
        have hfz7_3 := blk_frozen BK101.out 3
        have hfz7_4 := blk_frozen BK101.out 4
        go_wp2
        go_meet
        case rel => exact ⟨_, ((a0_3 == a0_4)), (by first | rfl | (simp; done) | (simp [*]; done)), H', ⟨by first | omega | exact Nat.le_refl _⟩, ⟨by (with_reducible repeat (first | refine blk_drewN ?_ _ | refine blk_drew ?_ | refine blk_alloc ?_ _)); exact BK101.out⟩, ⟨by repeat (first | (with_reducible first | exact HB.out | apply below_alloc | apply pw_below_drewN | apply below_drew1 | refine below_set ?_ GE101.out) | exact HB.out)⟩⟩
      · rw [if_neg c6] at H
        have c6b0 : (a0_1 == 2) = false := beq_eq_false_iff_ne.mpr c6
        have c6b1 : (a0_1 != 2) = true := bne_iff_ne.mpr c6
        have H' := Aside0.mk H
        clear H
        have hcz8_0 : w3.cell? ⟨gb101, 0, none⟩ = some (.slice A0_0 l0_0.length c0_0) := (blk_cell BK101.out 0).trans rfl
        have hcz8_1 : w3.cell? ⟨gb101, 1, none⟩ = some (.int .u8 a0_1) := (blk_cell BK101.out 1).trans rfl
        have hcz8_2 : w3.cell? ⟨gb101, 2, none⟩ = some (.int .i64 a0_2) := (blk_cell BK101.out 2).trans rfl
        have hcz8_3 : w3.cell? ⟨gb101, 3, none⟩ = some (.int .i64 a0_3) := (blk_cell BK101.out 3).trans rfl
        have hcz8_4 : w3.cell? ⟨gb101, 4, none⟩ = some (.int .i64 a0_4) := (blk_cell BK101.out 4).trans rfl
        have hfz8_0 := blk_frozen BK101.out 0
        have hfz8_1 := blk_frozen BK101.out 1
        have hfz8_2 := blk_frozen BK101.out 2
        have hfz8_3 := blk_frozen BK101.out 3
        have hfz8_4 := blk_frozen BK101.out 4
        go_wp2
        go_meet
        case rel => exact ⟨_, (false), (by first | rfl | (simp; done) | (simp [*]; done)), H', ⟨by first | omega | exact Nat.le_refl _⟩, ⟨by (with_reducible repeat (first | refine blk_drewN ?_ _ | refine blk_drew ?_ | refine blk_alloc ?_ _)); exact BK101.out⟩, ⟨by repeat (first | (with_reducible first | exact HB.out | apply below_alloc | apply pw_below_drewN | apply below_drew1 | refine below_set ?_ GE101.out) | exact HB.out)⟩⟩
  case rest =>
    clear HC2
    try clear c2
    try clear p2
    try clear c5
    try clear c5b0
    try clear c5b1
    try clear c6
    try clear c6b0
    try clear c6b1
    try clear hcz4_0
    try clear hcz4_1
    try clear hcz4_2
    try clear hcz4_3
    try clear hcz4_4
    try clear hcz7_0
    try clear hcz7_1
    try clear hcz7_2
    try clear hcz7_3
    try clear hcz7_4
    try clear hcz8_0
    try clear hcz8_1
    try clear hcz8_2
    try clear hcz8_3
    try clear hcz8_4
    try clear hfz4_0
    try clear hfz4_1
    try clear hfz4_2
    try clear hfz4_3
    try clear hfz4_4
    try clear hfz7_0
    try clear hfz7_1
    try clear hfz7_2
    try clear hfz7_3
    try clear hfz7_4
    try clear hfz8_0
    try clear hfz8_1
    try clear hfz8_2
    try clear hfz8_3
    try clear hfz8_4
    obtain ⟨kq, x3_1, rfl, HA, HJ1, BK101, HB⟩ := hcut
    cases kq with
    | zero => exact absurd HA.out (by simp [ir_Succ.j0])
    | succ kj1 =>
      have H := HA.out
      clear HA
      simp only [ir_Succ.j0] at H
      by_cases c9 : x3_1 = true
      · subst c9
        have H1 : (some (([a0_3] : List Int))) = some r := by rw [if_pos rfl] at H; exact H
        clear H
        have H := H1
        clear H1
        obtain ⟨y102, hy102⟩ : ∃ y_ : List Int, y_ = (([a0_3] : List Int)) := ⟨_, rfl⟩
        replace H : (some y102) = some r := by first | (rw [hy102]; with_reducible exact H) | (have H2_ := (Option.bind_some _ _).symm.trans H; rw [hy102]; with_reducible exact H2_) | (have H2_ := (Option.bind_some _ _).symm.trans H; with_reducible exact H2_) | with_reducible exact H | (rw [hy102]; exact H) | exact H
        have Ny102 := Aside0.mk hy102
        clear hy102
        obtain rfl := Option.some.inj H
        have hcz10_0 : wc.cell? ⟨gb101, 0, none⟩ = some (.slice A0_0 l0_0.length c0_0) := (blk_cell BK101.out 0).trans rfl
        have hcz10_1 : wc.cell? ⟨gb101, 1, none⟩ = some (.int .u8 a0_1) := (blk_cell BK101.out 1).trans rfl
        have hcz10_2 : wc.cell? ⟨gb101, 2, none⟩ = some (.int .i64 a0_2) := (blk_cell BK101.out 2).trans rfl
        have hcz10_3 : wc.cell? ⟨gb101, 3, none⟩ = some (.int .i64 a0_3) := (blk_cell BK101.out 3).trans rfl
        have hcz10_4 : wc.cell? ⟨gb101, 4, none⟩ = some (.int .i64 a0_4) := (blk_cell BK101.out 4).trans rfl
        have hfz10_0 := blk_frozen BK101.out 0
        have hfz10_1 := blk_frozen BK101.out 1
        have hfz10_2 := blk_frozen BK101.out 2
        have hfz10_3 := blk_frozen BK101.out 3
        have hfz10_4 := blk_frozen BK101.out 4
        go_wp2_with (first | ((with_reducible refine gate_dst (N := 19) rfl ?_); refine Kd.R_lit (Kd.int .i64) _ 3 ?hg (N := 19) ?hd (xs := ([a0_3] : List Int)) (inner := [.int .i64 a0_3]) (ok := fun _ => True) (okp := fun _ => True) ?hr ?hp (fun _ hk => hk) trivial (Below.refl _ _) (Nat.le_refl _) (by simp) ?_; (case hd => rfl); (case hg => rfl); (case hr => first | (go_simp; done) | (go_simp; rfl)); (case hp => exact (Reps.one (show Kd.M (Kd.int .i64) _ _ _ a0_3 [.int .i64 a0_3] from rfl) (Reps.none _ _))); intro v103 w11 ho12 hb hg_ hnew_; clear hg_ hnew_; (first | rw [← Ny102.out] at ho12 | (simp only [Int.reduceToNat] at ho12; rw [← Ny102.out] at ho12)); have n0_ := Aside0.mk (Kd.R_lower ho12 (below_size (by repeat (first | (with_reducible first | exact HB.out | apply below_alloc | apply pw_below_drewN | apply below_drew1 | refine below_set ?_ GE101.out) | exact HB.out)))); have n1_ := Aside0.mk (blk_below (g := gb101) (o := .cells #[.slice A0_0 l0_0.length c0_0, .int .u8 a0_1, .int .i64 a0_2, .int .i64 a0_3, .int .i64 a0_4] 43 (0, 0)) (by (with_reducible repeat (first | refine blk_drewN ?_ _ | refine blk_drew ?_ | refine blk_alloc ?_ _)); exact BK101.out) hb); have n2_ := Aside0.mk (below_step (by repeat (first | (with_reducible first | exact HB.out | apply below_alloc | apply pw_below_drewN | apply below_drew1 | refine below_set ?_ GE101.out) | exact HB.out)) hb); clear BK101; clear HB; have HO104 := n0_; have BK101 := n1_; have HB := n2_; clear n0_ n1_ n2_; clear hb ho12))
        go_ret
        exact ⟨_, by first | rfl | (simp [errW_none, errW_some] <;> rfl) | (simp [*, errW_none, errW_some] <;> rfl), by (with_reducible repeat (first | apply Kd.R_alloc | apply Kd.R_drewN | apply Kd.R_drew)); exact HO104.out, by repeat (first | (with_reducible first | exact HB.out | apply below_alloc | apply pw_below_drewN | apply below_drew1 | refine below_set ?_ GE101.out) | exact HB.out)⟩
      · replace c9 := Bool.eq_false_iff.mpr c9
        subst c9
        have H1 : (if a0_1 = 2 then (some (([a0_3, a0_4] : List Int))) else (some ([] : List Int))) = some r := by rw [if_neg (show ¬ (false = true) by decide)] at H; exact H
        clear H
        have H := H1
        clear H1
        by_cases c13 : a0_1 = 2
        · rw [if_pos c13] at H
          have c13b0 : (a0_1 == 2) = true := beq_iff_eq.mpr c13
          have c13b1 : (a0_1 != 2) = false := bne_eq_false_iff_eq.mpr c13
          clear c13
          obtain ⟨y105, hy105⟩ : ∃ y_ : List Int, y_ = (([a0_3, a0_4] : List Int)) := ⟨_, rfl⟩
          replace H : (some y105) = some r := by first | (rw [hy105]; with_reducible exact H) | (have H2_ := (Option.bind_some _ _).symm.trans H; rw [hy105]; with_reducible exact H2_) | (have H2_ := (Option.bind_some _ _).symm.trans H; with_reducible exact H2_) | with_reducible exact H | (rw [hy105]; exact H) | exact H
          have Ny105 := Aside0.mk hy105
          clear hy105
          obtain rfl := Option.some.inj H
          have hcz14_0 : wc.cell? ⟨gb101, 0, none⟩ = some (.slice A0_0 l0_0.length c0_0) := (blk_cell BK101.out 0).trans rfl
          have hcz14_1 : wc.cell? ⟨gb101, 1, none⟩ = some (.int .u8 a0_1) := (blk_cell BK101.out 1).trans rfl
          have hcz14_2 : wc.cell? ⟨gb101, 2, none⟩ = some (.int .i64 a0_2) := (blk_cell BK101.out 2).trans rfl
          have hcz14_3 : wc.cell? ⟨gb101, 3, none⟩ = some (.int .i64 a0_3) := (blk_cell BK101.out 3).trans rfl
          have hcz14_4 : wc.cell? ⟨gb101, 4, none⟩ = some (.int .i64 a0_4) := (blk_cell BK101.out 4).trans rfl
          have hfz14_0 := blk_frozen BK101.out 0
          have hfz14_1 := blk_frozen BK101.out 1
          have hfz14_2 := blk_frozen BK101.out 2
          have hfz14_3 := blk_frozen BK101.out 3
          have hfz14_4 := blk_frozen BK101.out 4
          go_wp2_with (first | ((with_reducible refine gate_dst (N := 28) rfl ?_); refine Kd.R_lit (Kd.int .i64) _ 3 ?hg (N := 28) ?hd (xs := ([a0_3, a0_4] : List Int)) (inner := [.int .i64 a0_3, .int .i64 a0_4]) (ok := fun _ => True) (okp := fun _ => True) ?hr ?hp (fun _ hk => hk) trivial (Below.refl _ _) (Nat.le_refl _) (by simp) ?_; (case hd => rfl); (case hg => rfl); (case hr => first | (go_simp; done) | (go_simp; rfl)); (case hp => exact (Reps.one (show Kd.M (Kd.int .i64) _ _ _ a0_3 [.int .i64 a0_3] from rfl) (Reps.one (show Kd.M (Kd.int .i64) _ _ _ a0_4 [.int .i64 a0_4] from rfl) (Reps.none _ _)))); intro v106 w15 ho16 hb hg_ hnew_; clear hg_ hnew_; (first | rw [← Ny105.out] at ho16 | (simp only [Int.reduceToNat] at ho16; rw [← Ny105.out] at ho16)); have n0_ := Aside0.mk (Kd.R_lower ho16 (below_size (by repeat (first | (with_reducible first | exact HB.out | apply below_alloc | apply pw_below_drewN | apply below_drew1 | refine below_set ?_ GE101.out) | exact HB.out)))); have n1_ := Aside0.mk (blk_below (g := gb101) (o := .cells #[.slice A0_0 l0_0.length c0_0, .int .u8 a0_1, .int .i64 a0_2, .int .i64 a0_3, .int .i64 a0_4] 43 (0, 0)) (by (with_reducible repeat (first | refine blk_drewN ?_ _ | refine blk_drew ?_ | refine blk_alloc ?_ _)); exact BK101.out) hb); have n2_ := Aside0.mk (below_step (by repeat (first | (with_reducible first | exact HB.out | apply below_alloc | apply pw_below_drewN | apply below_drew1 | refine below_set ?_ GE101.out) | exact HB.out)) hb); clear BK101; clear HB; have HO107 := n0_; have BK101 := n1_; have HB := n2_; clear n0_ n1_ n2_; clear hb ho16))
          go_ret
          exact ⟨_, by first | rfl | (simp [errW_none, errW_some] <;> rfl) | (simp [*, errW_none, errW_some] <;> rfl), by (with_reducible repeat (first | apply Kd.R_alloc | apply Kd.R_drewN | apply Kd.R_drew)); exact HO107.out, by repeat (first | (with_reducible first | exact HB.out | apply below_alloc | apply pw_below_drewN | apply below_drew1 | refine below_set ?_ GE101.out) | exact HB.out)⟩
        · rw [if_neg c13] at H
          have c13b0 : (a0_1 == 2) = false := beq_eq_false_iff_ne.mpr c13
          have c13b1 : (a0_1 != 2) = true := bne_iff_ne.mpr c13
          obtain rfl := Option.some.inj H
          have hcz17_0 : wc.cell? ⟨gb101, 0, none⟩ = some (.slice A0_0 l0_0.length c0_0) := (blk_cell BK101.out 0).trans rfl
          have hcz17_1 : wc.cell? ⟨gb101, 1, none⟩ = some (.int .u8 a0_1) := (blk_cell BK101.out 1).trans rfl
          have hcz17_2 : wc.cell? ⟨gb101, 2, none⟩ = some (.int .i64 a0_2) := (blk_cell BK101.out 2).trans rfl
          have hcz17_3 : wc.cell? ⟨gb101, 3, none⟩ = some (.int .i64 a0_3) := (blk_cell BK101.out 3).trans rfl
          have hcz17_4 : wc.cell? ⟨gb101, 4, none⟩ = some (.int .i64 a0_4) := (blk_cell BK101.out 4).trans rfl
          have hfz17_0 := blk_frozen BK101.out 0
          have hfz17_1 := blk_frozen BK101.out 1
          have hfz17_2 := blk_frozen BK101.out 2
          have hfz17_3 := blk_frozen BK101.out 3
          have hfz17_4 := blk_frozen BK101.out 4
          go_wp2
          go_ret
          exact ⟨_, by first | rfl | (simp [errW_none, errW_some] <;> rfl) | (simp [*, errW_none, errW_some] <;> rfl), by first | exact Kd.R_nil _ _ _ _ _ | exact Kd.N_nil _ _ _ _ _ | exact Kd.V_nil _ _ _ _ _ | exact Kd.Q_nil _ _ _ _ _ | exact Kd.S_nil _ _ _ _ _, by repeat (first | (with_reducible first | exact HB.out | apply below_alloc | apply pw_below_drewN | apply below_drew1 | refine below_set ?_ GE101.out) | exact HB.out)⟩
end Go.Proofs.Ythgodpmahdnnjaa.H
end
section
namespace Go.Proofs.Ythgodpmahdnnjaa.H
open Go.RowKit Go.Proofs.YthgodpmahdnnjaaW.PrintWords Go.Proofs.YthgodpmahdnnjaaW.PrintLast Go.Proofs.YthgodpmahdnnjaaW.PrintMore
set_option linter.unusedVariables false
set_option linter.unusedSimpArgs false
def ontimeref17_Succ.j0 : Nat → Bool → List (S80) → Int → Int → Int → Int → Option (List Int)
  | 0, _, _, _, _, _, _ => none
  | k + 1, x17, x278000, x278001, x278002, x278003, x278004 => if x17 = true then (some (([x278003] : List Int))) else (if x278001 = 2 then (some (([x278003, x278004] : List Int))) else (some ([] : List Int)))
def ontimeref17_Succ.f (k : Nat) (l0_0 : List (S80)) (a0_1 : Int) (a0_2 : Int) (a0_3 : Int) (a0_4 : Int) : Option (List Int) := if a0_1 = 1 then (ontimeref17_Succ.j0 k true l0_0 a0_1 a0_2 a0_3 a0_4) else (if a0_1 = 2 then (ontimeref17_Succ.j0 k (a0_3 == a0_4) l0_0 a0_1 a0_2 a0_3 a0_4) else (ontimeref17_Succ.j0 k false l0_0 a0_1 a0_2 a0_3 a0_4))
theorem ontimeref17_Succ.mono_l : ∀ k, (∀ y0 y1 y2 y3 y4 y5, LeO (ontimeref17_Succ.j0 k y0 y1 y2 y3 y4 y5) (ontimeref17_Succ.j0 (k + 1) y0 y1 y2 y3 y4 y5))
  | 0 => fun _ _ _ _ _ _ r h => by simp [ontimeref17_Succ.j0] at h
  | k + 1 => by
    have ih0 := ontimeref17_Succ.mono_l k
    · intro y0 y1 y2 y3 y4 y5
      unfold ontimeref17_Succ.j0
      repeat' first
      | (with_reducible exact ih0 _ _ _ _ _ _)
      | (with_reducible exact LeO.refl _)
      | (with_reducible exact LeO.none _)
      | (with_reducible refine LeO.ite ?_ ?_)
      | (with_reducible refine LeO.bind ?_ (fun _ => ?_))
      | exact ih0 _ _ _ _ _ _
      | exact LeO.none _
      | refine LeO.ite ?_ ?_
      | refine LeO.bind ?_ (fun _ => ?_)
theorem ontimeref17_Succ.mono : ∀ a0 a1 a2 a3 a4 k, LeO (ontimeref17_Succ.f k a0 a1 a2 a3 a4) (ontimeref17_Succ.f (k + 1) a0 a1 a2 a3 a4) := by
  intro a0 a1 a2 a3 a4 k
  have ih0 := ontimeref17_Succ.mono_l k
  unfold ontimeref17_Succ.f
  repeat' first
      | (with_reducible exact ih0 _ _ _ _ _ _)
      | (with_reducible exact LeO.refl _)
      | (with_reducible exact LeO.none _)
      | (with_reducible refine LeO.ite ?_ ?_)
      | (with_reducible refine LeO.bind ?_ (fun _ => ?_))
      | exact ih0 _ _ _ _ _ _
      | exact LeO.none _
      | refine LeO.ite ?_ ?_
      | refine LeO.bind ?_ (fun _ => ?_)
set_option maxHeartbeats 8000000 in
set_option maxRecDepth 100000 in
theorem ontimeref17_Succ.calls (k : Nat) (A0_0 : Option Addr) (c0_0 : Nat) (l0_0 : List (S80)) (a0_1 : Int) (a0_2 : Int) (a0_3 : Int) (a0_4 : Int) (r : List Int) (w : World) (hr0_0 : Kd.C k80 w A0_0 l0_0.length l0_0) (hc0_0 : l0_0.length ≤ c0_0) (h : ontimeref17_Succ.f k l0_0 a0_1 a0_2 a0_3 a0_4 = some r) :
    Calls Try.prog 39 #[.agg #[.slice A0_0 l0_0.length c0_0, .int .u8 a0_1, .int .i64 a0_2, .int .i64 a0_3, .int .i64 a0_4]] w fun e w' => ∃ v0_ : Value, e = .returned (v0_) ∧ Kd.R (Kd.int .i64) 3 w' w.heap.size (fun _ => True) v0_ r ∧ Below w.heap.size w w' := by
  have hu79 := Try.underlying79
  have HR0_0 := Aside0.mk hr0_0
  have HC0_0 := Aside0.mk hc0_0
  clear hr0_0 hc0_0
  have HB := Aside0.mk (Below.refl w.heap.size w)
  have H : (if a0_1 = 1 then (ontimeref17_Succ.j0 k true l0_0 a0_1 a0_2 a0_3 a0_4) else (if a0_1 = 2 then (ontimeref17_Succ.j0 k (a0_3 == a0_4) l0_0 a0_1 a0_2 a0_3 a0_4) else (ontimeref17_Succ.j0 k false l0_0 a0_1 a0_2 a0_3 a0_4))) = some r := h
  clear h
  have HC2 := Aside0.mk H
  clear H
  go_enter Try.func39, Try.ntmps39
  go_upto_region 1 with (first | ((with_reducible refine gate_dst (N := 1) rfl ?_); refine box_event ?hg (N := 1) ?hd (cs := #[.slice A0_0 l0_0.length c0_0, .int .u8 a0_1, .int .i64 a0_2, .int .i64 a0_3, .int .i64 a0_4]) (t := 79) ?hr ?_; (case hd => rfl); (case hg => rfl); (case hr => first | (go_simp; done) | (go_simp; rfl)); intro gb277 hg w3 hbox hb; have n0_ := Aside0.mk (below_step (by repeat (first | (with_reducible first | exact HB.out | apply below_alloc | apply pw_below_drewN | apply below_drew1) | exact HB.out)) hb); have n1_ := Aside0.mk (hbox); have n2_ := Aside0.mk ((by rw [hg]; exact (below_size (by repeat (first | (with_reducible first | exact HB.out | apply below_alloc | apply pw_below_drewN | apply below_drew1) | exact HB.out))) : w.heap.size ≤ gb277)); have n3_ := Aside0.mk ((by rw [hg]; exact (below_size (by repeat (first | (with_reducible first | exact HB.out | apply below_alloc | apply pw_below_drewN | apply below_drew1) | exact HB.out))) : w.heap.size ≤ gb277)); clear HB; have HB := n0_; have BK277 := n1_; have GW277 := n2_; have GE277 := n3_; clear n0_ n1_ n2_ n3_; clear hb hbox hg))
  (try simp only [Act.put, List.setIfInBounds_toArray, List.set_cons_zero, List.set_cons_succ])
  go_cut [17] (fun v17 wc => ∃ (kq : Nat) (x17_1 : Bool), v17 = .bool x17_1 ∧ Aside0 (ontimeref17_Succ.j0 kq x17_1 l0_0 a0_1 a0_2 a0_3 a0_4 = some r) ∧ Aside0 (kq ≤ k) ∧ Aside0 (wc.heap[gb277]? = some (.cells #[(.slice A0_0 l0_0.length c0_0), .int .u8 a0_1, .int .i64 a0_2, .int .i64 a0_3, .int .i64 a0_4] 79 (0, 0))) ∧ Aside0 (Below w.heap.size w wc))
  case first =>
    have H := HC2.out
    clear HC2
    by_cases c4 : a0_1 = 1
    · rw [if_pos c4] at H
      have c4b0 : (a0_1 == 1) = true := beq_iff_eq.mpr c4
      have c4b1 : (a0_1 != 1) = false := bne_eq_false_iff_eq.mpr c4
      clear c4
      (first | rw [c4b0] | (simp only [i64_w, i32_w]; rw [c4b0]) | skip)
      have H' := Aside0.mk H
      clear H
      have hcz5_0 : w3.cell? ⟨gb277, 0, none⟩ = some (.slice A0_0 l0_0.length c0_0) := (blk_cell BK277.out 0).trans rfl
      have hcz5_1 : w3.cell? ⟨gb277, 1, none⟩ = some (.int .u8 a0_1) := (blk_cell BK277.out 1).trans rfl
      have hcz5_2 : w3.cell? ⟨gb277, 2, none⟩ = some (.int .i64 a0_2) := (blk_cell BK277.out 2).trans rfl
      have hcz5_3 : w3.cell? ⟨gb277, 3, none⟩ = some (.int .i64 a0_3) := (blk_cell BK277.out 3).trans rfl
      have hcz5_4 : w3.cell? ⟨gb277, 4, none⟩ = some (.int .i64 a0_4) := (blk_cell BK277.out 4).trans rfl
      have hfz5_0 := blk_frozen BK277.out 0
      have hfz5_1 := blk_frozen BK277.out 1
      have hfz5_2 := blk_frozen BK277.out 2
      have hfz5_3 := blk_frozen BK277.out 3
      have hfz5_4 := blk_frozen BK277.out 4
      go_wp2
      go_meet
      case rel => exact ⟨_, (true), (by first | rfl | (simp; done) | (simp [*]; done)), H', ⟨by first | omega | exact Nat.le_refl _⟩, ⟨by (with_reducible repeat (first | refine blk_drewN ?_ _ | refine blk_drew ?_ | refine blk_alloc ?_ _)); exact BK277.out⟩, ⟨by repeat (first | (with_reducible first | exact HB.out | apply below_alloc | apply pw_below_drewN | apply below_drew1 | refine below_set ?_ GE277.out) | exact HB.out)⟩⟩
    · rw [if_neg c4] at H
      have c4b0 : (a0_1 == 1) = false := beq_eq_false_iff_ne.mpr c4
      have c4b1 : (a0_1 != 1) = true := bne_iff_ne.mpr c4
      (first | rw [c4b0] | (simp only [i64_w, i32_w]; rw [c4b0]) | skip)
      by_cases c6 : a0_1 = 2
      · rw [if_pos c6] at H
        have c6b0 : (a0_1 == 2) = true := beq_iff_eq.mpr c6
        have c6b1 : (a0_1 != 2) = false := bne_eq_false_iff_eq.mpr c6
        clear c6
        have H' := Aside0.mk H
        clear H
        have hcz7_0 : w3.cell? ⟨gb277, 0, none⟩ = some (.slice A0_0 l0_0.length c0_0) := (blk_cell BK277.out 0).trans rfl
        have hcz7_1 : w3.cell? ⟨gb277, 1, none⟩ = some (.int .u8 a0_1) := (blk_cell BK277.out 1).trans rfl
        have hcz7_2 : w3.cell? ⟨gb277, 2, none⟩ = some (.int .i64 a0_2) := (blk_cell BK277.out 2).trans rfl
        have hcz7_3 : w3.cell? ⟨gb277, 3, none⟩ = some (.int .i64 a0_3) := (blk_cell BK277.out 3).trans rfl
        have hcz7_4 : w3.cell? ⟨gb277, 4, none⟩ = some (.int .i64 a0_4) := (blk_cell BK277.out 4).trans rfl
        have hfz7_0 := blk_frozen BK277.out 0
        have hfz7_1 := blk_frozen BK277.out 1
        have hfz7_2 := blk_frozen BK277.out 2
        have hfz7_3 := blk_frozen BK277.out 3
        have hfz7_4 := blk_frozen BK277.out 4
        go_wp2
        go_meet
        case rel => exact ⟨_, ((a0_3 == a0_4)), (by first | rfl | (simp; done) | (simp [*]; done)), H', ⟨by first | omega | exact Nat.le_refl _⟩, ⟨by (with_reducible repeat (first | refine blk_drewN ?_ _ | refine blk_drew ?_ | refine blk_alloc ?_ _)); exact BK277.out⟩, ⟨by repeat (first | (with_reducible first | exact HB.out | apply below_alloc | apply pw_below_drewN | apply below_drew1 | refine below_set ?_ GE277.out) | exact HB.out)⟩⟩
      · rw [if_neg c6] at H
        have c6b0 : (a0_1 == 2) = false := beq_eq_false_iff_ne.mpr c6
        have c6b1 : (a0_1 != 2) = true := bne_iff_ne.mpr c6
        have H' := Aside0.mk H
        clear H
        have hcz8_0 : w3.cell? ⟨gb277, 0, none⟩ = some (.slice A0_0 l0_0.length c0_0) := (blk_cell BK277.out 0).trans rfl
        have hcz8_1 : w3.cell? ⟨gb277, 1, none⟩ = some (.int .u8 a0_1) := (blk_cell BK277.out 1).trans rfl
        have hcz8_2 : w3.cell? ⟨gb277, 2, none⟩ = some (.int .i64 a0_2) := (blk_cell BK277.out 2).trans rfl
        have hcz8_3 : w3.cell? ⟨gb277, 3, none⟩ = some (.int .i64 a0_3) := (blk_cell BK277.out 3).trans rfl
        have hcz8_4 : w3.cell? ⟨gb277, 4, none⟩ = some (.int .i64 a0_4) := (blk_cell BK277.out 4).trans rfl
        have hfz8_0 := blk_frozen BK277.out 0
        have hfz8_1 := blk_frozen BK277.out 1
        have hfz8_2 := blk_frozen BK277.out 2
        have hfz8_3 := blk_frozen BK277.out 3
        have hfz8_4 := blk_frozen BK277.out 4
        go_wp2
        go_meet
        case rel => exact ⟨_, (false), (by first | rfl | (simp; done) | (simp [*]; done)), H', ⟨by first | omega | exact Nat.le_refl _⟩, ⟨by (with_reducible repeat (first | refine blk_drewN ?_ _ | refine blk_drew ?_ | refine blk_alloc ?_ _)); exact BK277.out⟩, ⟨by repeat (first | (with_reducible first | exact HB.out | apply below_alloc | apply pw_below_drewN | apply below_drew1 | refine below_set ?_ GE277.out) | exact HB.out)⟩⟩
  case rest =>
    clear HC2
    try clear p2
    try clear c3
    try clear c4
    try clear c4b0
    try clear c4b1
    try clear c6
    try clear c6b0
    try clear c6b1
    try clear hcz5_0
    try clear hcz5_1
    try clear hcz5_2
    try clear hcz5_3
    try clear hcz5_4
    try clear hcz7_0
    try clear hcz7_1
    try clear hcz7_2
    try clear hcz7_3
    try clear hcz7_4
    try clear hcz8_0
    try clear hcz8_1
    try clear hcz8_2
    try clear hcz8_3
    try clear hcz8_4
    try clear hfz5_0
    try clear hfz5_1
    try clear hfz5_2
    try clear hfz5_3
    try clear hfz5_4
    try clear hfz7_0
    try clear hfz7_1
    try clear hfz7_2
    try clear hfz7_3
    try clear hfz7_4
    try clear hfz8_0
    try clear hfz8_1
    try clear hfz8_2
    try clear hfz8_3
    try clear hfz8_4
    obtain ⟨kq, x17_1, rfl, HA, HJ1, BK277, HB⟩ := hcut
    cases kq with
    | zero => exact absurd HA.out (by simp [ontimeref17_Succ.j0])
    | succ kj1 =>
      have H := HA.out
      clear HA
      simp only [ontimeref17_Succ.j0] at H
      by_cases c9 : x17_1 = true
      · subst c9
        have H1 : (some (([a0_3] : List Int))) = some r := by rw [if_pos rfl] at H; exact H
        clear H
        have H := H1
        clear H1
        obtain ⟨y278, hy278⟩ : ∃ y_ : List Int, y_ = (([a0_3] : List Int)) := ⟨_, rfl⟩
        replace H : (some y278) = some r := by first | (rw [hy278]; with_reducible exact H) | (have H2_ := (Option.bind_some _ _).symm.trans H; rw [hy278]; with_reducible exact H2_) | (have H2_ := (Option.bind_some _ _).symm.trans H; with_reducible exact H2_) | with_reducible exact H | (rw [hy278]; exact H) | exact H
        have Ny278 := Aside0.mk hy278
        clear hy278
        obtain rfl := Option.some.inj H
        have hcz10_0 : wc.cell? ⟨gb277, 0, none⟩ = some (.slice A0_0 l0_0.length c0_0) := (blk_cell BK277.out 0).trans rfl
        have hcz10_1 : wc.cell? ⟨gb277, 1, none⟩ = some (.int .u8 a0_1) := (blk_cell BK277.out 1).trans rfl
        have hcz10_2 : wc.cell? ⟨gb277, 2, none⟩ = some (.int .i64 a0_2) := (blk_cell BK277.out 2).trans rfl
        have hcz10_3 : wc.cell? ⟨gb277, 3, none⟩ = some (.int .i64 a0_3) := (blk_cell BK277.out 3).trans rfl
        have hcz10_4 : wc.cell? ⟨gb277, 4, none⟩ = some (.int .i64 a0_4) := (blk_cell BK277.out 4).trans rfl
        have hfz10_0 := blk_frozen BK277.out 0
        have hfz10_1 := blk_frozen BK277.out 1
        have hfz10_2 := blk_frozen BK277.out 2
        have hfz10_3 := blk_frozen BK277.out 3
        have hfz10_4 := blk_frozen BK277.out 4
        go_wp2_with (first | ((with_reducible refine gate_dst (N := 20) rfl ?_); refine Kd.R_lit (Kd.int .i64) _ 3 ?hg (N := 20) ?hd (xs := ([a0_3] : List Int)) (inner := [.int .i64 a0_3]) (ok := fun _ => True) (okp := fun _ => True) ?hr ?hp (fun _ hk => hk) trivial (Below.refl _ _) (Nat.le_refl _) (by simp) ?_; (case hd => rfl); (case hg => rfl); (case hr => first | (go_simp; done) | (go_simp; rfl)); (case hp => exact (Reps.one (show Kd.M (Kd.int .i64) _ _ _ a0_3 [.int .i64 a0_3] from rfl) (Reps.none _ _))); intro v279 w11 ho12 hb hg_ hnew_; clear hg_ hnew_; (first | rw [← Ny278.out] at ho12 | (simp only [Int.reduceToNat] at ho12; rw [← Ny278.out] at ho12)); have n0_ := Aside0.mk (Kd.R_lower ho12 (below_size (by repeat (first | (with_reducible first | exact HB.out | apply below_alloc | apply pw_below_drewN | apply below_drew1 | refine below_set ?_ GE277.out) | exact HB.out)))); have n1_ := Aside0.mk (blk_below (g := gb277) (o := .cells #[.slice A0_0 l0_0.length c0_0, .int .u8 a0_1, .int .i64 a0_2, .int .i64 a0_3, .int .i64 a0_4] 79 (0, 0)) (by (with_reducible repeat (first | refine blk_drewN ?_ _ | refine blk_drew ?_ | refine blk_alloc ?_ _)); exact BK277.out) hb); have n2_ := Aside0.mk (below_step (by repeat (first | (with_reducible first | exact HB.out | apply below_alloc | apply pw_below_drewN | apply below_drew1 | refine below_set ?_ GE277.out) | exact HB.out)) hb); clear BK277; clear HB; have HO280 := n0_; have BK277 := n1_; have HB := n2_; clear n0_ n1_ n2_; clear hb ho12))
        go_ret
        exact ⟨_, by first | rfl | (simp [errW_none, errW_some] <;> rfl) | (simp [*, errW_none, errW_some] <;> rfl), by (with_reducible repeat (first | apply Kd.R_alloc | apply Kd.R_drewN | apply Kd.R_drew)); exact HO280.out, by repeat (first | (with_reducible first | exact HB.out | apply below_alloc | apply pw_below_drewN | apply below_drew1 | refine below_set ?_ GE277.out) | exact HB.out)⟩
      · replace c9 := Bool.eq_false_iff.mpr c9
        subst c9
        have H1 : (if a0_1 = 2 then (some (([a0_3, a0_4] : List Int))) else (some ([] : List Int))) = some r := by rw [if_neg (show ¬ (false = true) by decide)] at H; exact H
        clear H
        have H := H1
        clear H1
        by_cases c13 : a0_1 = 2
        · rw [if_pos c13] at H
          have c13b0 : (a0_1 == 2) = true := beq_iff_eq.mpr c13
          have c13b1 : (a0_1 != 2) = false := bne_eq_false_iff_eq.mpr c13
          clear c13
          obtain ⟨y281, hy281⟩ : ∃ y_ : List Int, y_ = (([a0_3, a0_4] : List Int)) := ⟨_, rfl⟩
          replace H : (some y281) = some r := by first | (rw [hy281]; with_reducible exact H) | (have H2_ := (Option.bind_some _ _).symm.trans H; rw [hy281]; with_reducible exact H2_) | (have H2_ := (Option.bind_some _ _).symm.trans H; with_reducible exact H2_) | with_reducible exact H | (rw [hy281]; exact H) | exact H
          have Ny281 := Aside0.mk hy281
          clear hy281
          obtain rfl := Option.some.inj H
          have hcz14_0 : wc.cell? ⟨gb277, 0, none⟩ = some (.slice A0_0 l0_0.length c0_0) := (blk_cell BK277.out 0).trans rfl
          have hcz14_1 : wc.cell? ⟨gb277, 1, none⟩ = some (.int .u8 a0_1) := (blk_cell BK277.out 1).trans rfl
          have hcz14_2 : wc.cell? ⟨gb277, 2, none⟩ = some (.int .i64 a0_2) := (blk_cell BK277.out 2).trans rfl
          have hcz14_3 : wc.cell? ⟨gb277, 3, none⟩ = some (.int .i64 a0_3) := (blk_cell BK277.out 3).trans rfl
          have hcz14_4 : wc.cell? ⟨gb277, 4, none⟩ = some (.int .i64 a0_4) := (blk_cell BK277.out 4).trans rfl
          have hfz14_0 := blk_frozen BK277.out 0
          have hfz14_1 := blk_frozen BK277.out 1
          have hfz14_2 := blk_frozen BK277.out 2
          have hfz14_3 := blk_frozen BK277.out 3
          have hfz14_4 := blk_frozen BK277.out 4
          go_wp2_with (first | ((with_reducible refine gate_dst (N := 28) rfl ?_); refine Kd.R_lit (Kd.int .i64) _ 3 ?hg (N := 28) ?hd (xs := ([a0_3, a0_4] : List Int)) (inner := [.int .i64 a0_3, .int .i64 a0_4]) (ok := fun _ => True) (okp := fun _ => True) ?hr ?hp (fun _ hk => hk) trivial (Below.refl _ _) (Nat.le_refl _) (by simp) ?_; (case hd => rfl); (case hg => rfl); (case hr => first | (go_simp; done) | (go_simp; rfl)); (case hp => exact (Reps.one (show Kd.M (Kd.int .i64) _ _ _ a0_3 [.int .i64 a0_3] from rfl) (Reps.one (show Kd.M (Kd.int .i64) _ _ _ a0_4 [.int .i64 a0_4] from rfl) (Reps.none _ _)))); intro v282 w15 ho16 hb hg_ hnew_; clear hg_ hnew_; (first | rw [← Ny281.out] at ho16 | (simp only [Int.reduceToNat] at ho16; rw [← Ny281.out] at ho16)); have n0_ := Aside0.mk (Kd.R_lower ho16 (below_size (by repeat (first | (with_reducible first | exact HB.out | apply below_alloc | apply pw_below_drewN | apply below_drew1 | refine below_set ?_ GE277.out) | exact HB.out)))); have n1_ := Aside0.mk (blk_below (g := gb277) (o := .cells #[.slice A0_0 l0_0.length c0_0, .int .u8 a0_1, .int .i64 a0_2, .int .i64 a0_3, .int .i64 a0_4] 79 (0, 0)) (by (with_reducible repeat (first | refine blk_drewN ?_ _ | refine blk_drew ?_ | refine blk_alloc ?_ _)); exact BK277.out) hb); have n2_ := Aside0.mk (below_step (by repeat (first | (with_reducible first | exact HB.out | apply below_alloc | apply pw_below_drewN | apply below_drew1 | refine below_set ?_ GE277.out) | exact HB.out)) hb); clear BK277; clear HB; have HO283 := n0_; have BK277 := n1_; have HB := n2_; clear n0_ n1_ n2_; clear hb ho16))
          go_ret
          exact ⟨_, by first | rfl | (simp [errW_none, errW_some] <;> rfl) | (simp [*, errW_none, errW_some] <;> rfl), by (with_reducible repeat (first | apply Kd.R_alloc | apply Kd.R_drewN | apply Kd.R_drew)); exact HO283.out, by repeat (first | (with_reducible first | exact HB.out | apply below_alloc | apply pw_below_drewN | apply below_drew1 | refine below_set ?_ GE277.out) | exact HB.out)⟩
        · rw [if_neg c13] at H
          have c13b0 : (a0_1 == 2) = false := beq_eq_false_iff_ne.mpr c13
          have c13b1 : (a0_1 != 2) = true := bne_iff_ne.mpr c13
          obtain rfl := Option.some.inj H
          have hcz17_0 : wc.cell? ⟨gb277, 0, none⟩ = some (.slice A0_0 l0_0.length c0_0) := (blk_cell BK277.out 0).trans rfl
          have hcz17_1 : wc.cell? ⟨gb277, 1, none⟩ = some (.int .u8 a0_1) := (blk_cell BK277.out 1).trans rfl
          have hcz17_2 : wc.cell? ⟨gb277, 2, none⟩ = some (.int .i64 a0_2) := (blk_cell BK277.out 2).trans rfl
          have hcz17_3 : wc.cell? ⟨gb277, 3, none⟩ = some (.int .i64 a0_3) := (blk_cell BK277.out 3).trans rfl
          have hcz17_4 : wc.cell? ⟨gb277, 4, none⟩ = some (.int .i64 a0_4) := (blk_cell BK277.out 4).trans rfl
          have hfz17_0 := blk_frozen BK277.out 0
          have hfz17_1 := blk_frozen BK277.out 1
          have hfz17_2 := blk_frozen BK277.out 2
          have hfz17_3 := blk_frozen BK277.out 3
          have hfz17_4 := blk_frozen BK277.out 4
          go_wp2
          go_ret
          exact ⟨_, by first | rfl | (simp [errW_none, errW_some] <;> rfl) | (simp [*, errW_none, errW_some] <;> rfl), by first | exact Kd.R_nil _ _ _ _ _ | exact Kd.N_nil _ _ _ _ _ | exact Kd.V_nil _ _ _ _ _ | exact Kd.Q_nil _ _ _ _ _ | exact Kd.S_nil _ _ _ _ _, by repeat (first | (with_reducible first | exact HB.out | apply below_alloc | apply pw_below_drewN | apply below_drew1 | refine below_set ?_ GE277.out) | exact HB.out)⟩
end Go.Proofs.Ythgodpmahdnnjaa.H
end
