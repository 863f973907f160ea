/- Texts of this claim, joined by a program (part 3); what nothing uses is left out. -/
import Derived.Test.YthgodpmahdnnjaaQ2
section
namespace Go.Proofs.Ythgodpmahdnnjaa.H
open Go.RowKit Go.Proofs.YthgodpmahdnnjaaW.PrintWords Go.Proofs.YthgodpmahdnnjaaW.PrintLast Go.Proofs.YthgodpmahdnnjaaW.PrintMore
set_option linter.unusedVariables false
set_option linter.unusedSimpArgs false
def ontimeref19_Leaves.l0 : Nat → Int → List Bool → List Int → ByteArray → Int → List (S107) → List (S79) → Option (Bool)
  | 0, _, _, _, _, _, _, _ => none
  | k + 1, x2, x7, x8, x303000, x303001, x303002, x303003 => if (x8.length : Int) > 0 then (if 0 < (x8.length : Int) then (if 1 ≤ (x8.length : Int) then ((some (x8.drop (1 : Int).toNat : List Int)).bind fun y311 => (if 0 ≤ (rd x8 0) then (if (rd x8 0) < (x7.length : Int) then (if rdOf false x7 (rd x8 0) = true then (ontimeref19_Leaves.l0 k x2 x7 y311 x303000 x303001 x303002 x303003) else ((some (x7.set ((rd x8 0) : Int).toNat true : List Bool)).bind fun y315 => ((ontimeref19_reaches.f k x303000 x303001 x303002 x303003 (rd x8 0) 0 x2).bind fun bt316 => (if bt316.1 = true then (some true) else (if bt316.2 = true then ((some (([] : List Int) : List Int)).bind fun y318 => (if y318.length + y311.length < 17592186044416 then ((some (y318 ++ y311 : List Int)).bind fun y321 => (if (rd x8 0) < (x303003.length : Int) then ((ontimeref17_Succ.f k ((rd_T79 x303003 (rd x8 0)).f0) ((rd_T79 x303003 (rd x8 0)).f1) ((rd_T79 x303003 (rd x8 0)).f2) ((rd_T79 x303003 (rd x8 0)).f3) ((rd_T79 x303003 (rd x8 0)).f4)).bind fun t325 => (if y321.length + t325.length < 17592186044416 then (ontimeref19_Leaves.l0 k x2 y315 (y321 ++ t325) x303000 x303001 x303002 x303003) else (none))) else (none))) else (none))) else (ontimeref19_Leaves.l0 k x2 y315 y311 x303000 x303001 x303002 x303003)))))) else (none)) else (none))) else (none)) else (none)) else (some false)
def ontimeref19_Leaves.f (k : Nat) (a0_0 : ByteArray) (a0_1 : Int) (l0_2 : List (S107)) (l0_3 : List (S79)) (a1 : Int) (a2 : Int) : Option (Bool) := if 0 ≤ (l0_3.length : Int) then (if ((l0_3.length : Int) : Int).toNat ≤ 281474976710656 then (if 0 ≤ a1 then (if a1 < (l0_3.length : Int) then ((ontimeref17_Succ.f k ((rd_T79 l0_3 a1).f0) ((rd_T79 l0_3 a1).f1) ((rd_T79 l0_3 a1).f2) ((rd_T79 l0_3 a1).f3) ((rd_T79 l0_3 a1).f4)).bind fun t307 => (ontimeref19_Leaves.l0 k a2 (List.replicate ((l0_3.length : Int) : Int).toNat false) t307 a0_0 a0_1 l0_2 l0_3)) else (none)) else (none)) else (none)) else (none)
theorem ontimeref19_Leaves.mono_l : ∀ k, (∀ y0 y1 y2 y3 y4 y5 y6, LeO (ontimeref19_Leaves.l0 k y0 y1 y2 y3 y4 y5 y6) (ontimeref19_Leaves.l0 (k + 1) y0 y1 y2 y3 y4 y5 y6))
  | 0 => fun _ _ _ _ _ _ _ r h => by simp [ontimeref19_Leaves.l0] at h
  | k + 1 => by
    have ih0 := ontimeref19_Leaves.mono_l k
    · intro y0 y1 y2 y3 y4 y5 y6
      unfold ontimeref19_Leaves.l0
      repeat' first
      | (with_reducible exact ih0 _ _ _ _ _ _ _)
      | (with_reducible exact ontimeref17_Succ.mono _ _ _ _ _ _)
      | (with_reducible exact ontimeref19_reaches.mono _ _ _ _ _ _ _ _)
      | (with_reducible exact LeO.refl _)
      | (with_reducible exact LeO.none _)
      | (with_reducible refine LeO.ite ?_ ?_)
      | (with_reducible refine LeO.bind ?_ (fun _ => ?_))
      | exact ih0 _ _ _ _ _ _ _
      | exact ontimeref17_Succ.mono _ _ _ _ _ _
      | exact ontimeref19_reaches.mono _ _ _ _ _ _ _ _
      | exact LeO.none _
      | refine LeO.ite ?_ ?_
      | refine LeO.bind ?_ (fun _ => ?_)
theorem ontimeref19_Leaves.mono : ∀ a0 a1 a2 a3 a4 a5 k, LeO (ontimeref19_Leaves.f k a0 a1 a2 a3 a4 a5) (ontimeref19_Leaves.f (k + 1) a0 a1 a2 a3 a4 a5) := by
  intro a0 a1 a2 a3 a4 a5 k
  have ih0 := ontimeref19_Leaves.mono_l k
  unfold ontimeref19_Leaves.f
  repeat' first
      | (with_reducible exact ih0 _ _ _ _ _ _ _)
      | (with_reducible exact ontimeref17_Succ.mono _ _ _ _ _ _)
      | (with_reducible exact ontimeref19_reaches.mono _ _ _ _ _ _ _ _)
      | (with_reducible exact LeO.refl _)
      | (with_reducible exact LeO.none _)
      | (with_reducible refine LeO.ite ?_ ?_)
      | (with_reducible refine LeO.bind ?_ (fun _ => ?_))
      | exact ih0 _ _ _ _ _ _ _
      | exact ontimeref17_Succ.mono _ _ _ _ _ _
      | exact ontimeref19_reaches.mono _ _ _ _ _ _ _ _
      | exact LeO.none _
      | refine LeO.ite ?_ ?_
      | refine LeO.bind ?_ (fun _ => ?_)
def ontimeref19_Leaves.T12 : Bool × List (List Nat × List Nat) := (true, [([], []), ([], []), ([0, 1], [0, 1]), ([], []), ([3], [3]), ([], []), ([4, 5], [4, 5]), ([6], [6]), ([7, 2], [7]), ([2, 8, 8], [2, 8]), ([9, 9, 0, 1, 2, 3, 4, 5, 6, 7, 8, 9], [1, 9])])
def ontimeref19_Leaves.B12 : List Nat := [0, 0, 3, 0, 8, 0, 56, 120, 255, 511, 1023]
theorem ontimeref19_Leaves.tab12 : rtab .any (opsOf Try.f45 12) = ontimeref19_Leaves.T12 := by kernel_rfl
theorem ontimeref19_Leaves.bits12 : waitsOk ontimeref19_Leaves.T12.2 ontimeref19_Leaves.B12 = true := by kernel_rfl
set_option maxHeartbeats 8000000 in
set_option maxRecDepth 100000 in
theorem ontimeref19_Leaves.calls (k : Nat) (a0_0 : ByteArray) (a0_1 : Int) (A0_2 : Option Addr) (c0_2 : Nat) (l0_2 : List (S107)) (A0_3 : Option Addr) (c0_3 : Nat) (l0_3 : List (S79)) (a1 : Int) (a2 : Int) (r : Bool) (w : World) (hr0_2 : Kd.C k107 w A0_2 l0_2.length l0_2) (hc0_2 : l0_2.length ≤ c0_2) (hr0_3 : Kd.C k79 w A0_3 l0_3.length l0_3) (hc0_3 : l0_3.length ≤ c0_3) (h : ontimeref19_Leaves.f k a0_0 a0_1 l0_2 l0_3 a1 a2 = some r) :
    Calls Try.prog 45 #[.agg #[.string a0_0, .int .i64 a0_1, .slice A0_2 l0_2.length c0_2, .slice A0_3 l0_3.length c0_3], .int .i64 a1, .int .i64 a2] w fun e w' => e = .returned (.bool r) ∧ Below w.heap.size w w' := by
  have hu36 := Try.underlying36
  have hu79 := Try.underlying79
  have HR0_2 := Aside0.mk hr0_2
  have HC0_2 := Aside0.mk hc0_2
  clear hr0_2 hc0_2
  have HR0_3 := Aside0.mk hr0_3
  have HC0_3 := Aside0.mk hc0_3
  clear hr0_3 hc0_3
  have HB := Aside0.mk (Below.refl w.heap.size w)
  have H : (if 0 ≤ (l0_3.length : Int) then (if ((l0_3.length : Int) : Int).toNat ≤ 281474976710656 then (if 0 ≤ a1 then (if a1 < (l0_3.length : Int) then ((ontimeref17_Succ.f k ((rd_T79 l0_3 a1).f0) ((rd_T79 l0_3 a1).f1) ((rd_T79 l0_3 a1).f2) ((rd_T79 l0_3 a1).f3) ((rd_T79 l0_3 a1).f4)).bind fun t307 => (ontimeref19_Leaves.l0 k a2 (List.replicate ((l0_3.length : Int) : Int).toNat false) t307 a0_0 a0_1 l0_2 l0_3)) else (none)) else (none)) else (none)) else (none)) = some r := h
  clear h
  by_cases c4 : 0 ≤ (l0_3.length : Int)
  · rw [if_pos c4] at H
    have c4b0 := eq_true c4
    have c4b1 : decide (0 ≤ (l0_3.length : Int)) = true := decide_eq_true c4
    clear c4
    by_cases c5 : ((l0_3.length : Int) : Int).toNat ≤ 281474976710656
    · rw [if_pos c5] at H
      have c5b0 := eq_true c5
      have c5b1 : decide (((l0_3.length : Int) : Int).toNat ≤ 281474976710656) = true := decide_eq_true c5
      clear c5
      obtain ⟨y303, hy303⟩ : ∃ y_ : List Bool, y_ = (List.replicate ((l0_3.length : Int) : Int).toNat false) := ⟨_, rfl⟩
      replace H : (if 0 ≤ a1 then (if a1 < (l0_3.length : Int) then ((ontimeref17_Succ.f k ((rd_T79 l0_3 a1).f0) ((rd_T79 l0_3 a1).f1) ((rd_T79 l0_3 a1).f2) ((rd_T79 l0_3 a1).f3) ((rd_T79 l0_3 a1).f4)).bind fun t307 => (ontimeref19_Leaves.l0 k a2 y303 t307 a0_0 a0_1 l0_2 l0_3)) else (none)) else (none)) = some r := by first | (rw [hy303]; with_reducible exact H) | (have H2_ := (Option.bind_some _ _).symm.trans H; rw [hy303]; with_reducible exact H2_) | (have H2_ := (Option.bind_some _ _).symm.trans H; with_reducible exact H2_) | with_reducible exact H | (rw [hy303]; exact H) | exact H
      have Ny303 := Aside0.mk hy303
      clear hy303
      by_cases c6 : 0 ≤ a1
      · rw [if_pos c6] at H
        have c6b0 : decide (0 ≤ a1) = true := decide_eq_true c6
        clear c6
        by_cases c7 : a1 < (l0_3.length : Int)
        · rw [if_pos c7] at H
          have c7b0 : decide (a1 < (l0_3.length : Int)) = true := decide_eq_true c7
          clear c7
          replace H := Option.bind_eq_some_iff.mp H
          obtain ⟨t307, A80, H⟩ := H
          replace H : (ontimeref19_Leaves.l0 k a2 y303 t307 a0_0 a0_1 l0_2 l0_3) = some r := H
          have A8 := Aside0.mk A80
          clear A80
          have H' := Aside0.mk H
          clear H
          go_enter Try.func45, Try.ntmps45
          go_wp2_with (first | ((with_reducible refine gate_dst (N := 3) rfl ?_); refine box_event ?hg (N := 3) ?hd (cs := #[.string a0_0, .int .i64 a0_1, .slice A0_2 l0_2.length c0_2, .slice A0_3 l0_3.length c0_3]) (t := 36) ?hr ?_; (case hd => rfl); (case hg => rfl); (case hr => first | (go_simp; done) | (go_simp; rfl)); intro gb302 hg w9 hbox hb; have n0_ := Aside0.mk (below_step (by repeat (first | (with_reducible first | exact HB.out | apply below_alloc | apply pw_below_drewN | apply below_drew1) | exact HB.out)) hb); have n1_ := Aside0.mk (hbox); have n2_ := Aside0.mk ((by rw [hg]; exact (below_size (by repeat (first | (with_reducible first | exact HB.out | apply below_alloc | apply pw_below_drewN | apply below_drew1) | exact HB.out))) : w.heap.size ≤ gb302)); have n3_ := Aside0.mk ((by rw [hg]; exact (below_size (by repeat (first | (with_reducible first | exact HB.out | apply below_alloc | apply pw_below_drewN | apply below_drew1) | exact HB.out))) : w.heap.size ≤ gb302)); clear HB; have HB := n0_; have BK302 := n1_; have GW302 := n2_; have GE302 := n3_; clear n0_ n1_ n2_ n3_; clear hb hbox hg; have hcz10_0 : w9.cell? ⟨gb302, 0, none⟩ = some (.string a0_0) := (blk_cell BK302.out 0).trans rfl; have hcz10_1 : w9.cell? ⟨gb302, 1, none⟩ = some (.int .i64 a0_1) := (blk_cell BK302.out 1).trans rfl; have hcz10_2 : w9.cell? ⟨gb302, 2, none⟩ = some (.slice A0_2 l0_2.length c0_2) := (blk_cell BK302.out 2).trans rfl; have hcz10_3 : w9.cell? ⟨gb302, 3, none⟩ = some (.slice A0_3 l0_3.length c0_3) := (blk_cell BK302.out 3).trans rfl; have hfz10_0 := blk_frozen BK302.out 0; have hfz10_1 := blk_frozen BK302.out 1; have hfz10_2 := blk_frozen BK302.out 2; have hfz10_3 := blk_frozen BK302.out 3) | ((with_reducible refine gate_dst (N := 15) rfl ?_); refine Kd.R_make Kd.bool _ 4 rfl (N := 15) rfl 116 _ _ rfl (l0_3.length : Int) rfl rfl Try.underlying116 (.bool false) 1 info4 rfl (by decide) (by omega) false (ok := fun _ => True) (okp := fun _ => True) rfl (fun _ hk => hk) trivial (of_decide_eq_true (by first | (with_reducible assumption) | assumption)) (Nat.le_trans (Nat.mul_le_mul_right _ (of_decide_eq_true (by first | (with_reducible assumption) | assumption) : (l0_3.length : Int).toNat ≤ 281474976710656)) (by omega)) (Below.refl _ _) (Nat.le_refl _) ?_; intro v304 w11 ho12 hb hg_ hnew_; clear hg_ hnew_; (first | rw [← Ny303.out] at ho12 | (simp only [Int.reduceToNat] at ho12; rw [← Ny303.out] at ho12)); have n0_ := Aside0.mk (Kd.R_lower ho12 (below_size (by repeat (first | (with_reducible first | exact HB.out | apply below_alloc | apply pw_below_drewN | apply below_drew1 | refine below_set ?_ GE302.out) | exact HB.out)))); have n1_ := Aside0.mk (blk_below (g := gb302) (o := .cells #[.string a0_0, .int .i64 a0_1, .slice A0_2 l0_2.length c0_2, .slice A0_3 l0_3.length c0_3] 36 (0, 0)) (by (with_reducible repeat (first | refine blk_drewN ?_ _ | refine blk_drew ?_ | refine blk_alloc ?_ _)); exact BK302.out) hb); have n2_ := Aside0.mk (below_step (by repeat (first | (with_reducible first | exact HB.out | apply below_alloc | apply pw_below_drewN | apply below_drew1 | refine below_set ?_ GE302.out) | exact HB.out)) hb); clear BK302; clear HB; have HO305 := n0_; have BK302 := n1_; have HB := n2_; clear n0_ n1_ n2_; clear hb ho12; have hcz13_0 : w11.cell? ⟨gb302, 0, none⟩ = some (.string a0_0) := (blk_cell BK302.out 0).trans rfl; have hcz13_1 : w11.cell? ⟨gb302, 1, none⟩ = some (.int .i64 a0_1) := (blk_cell BK302.out 1).trans rfl; have hcz13_2 : w11.cell? ⟨gb302, 2, none⟩ = some (.slice A0_2 l0_2.length c0_2) := (blk_cell BK302.out 2).trans rfl; have hcz13_3 : w11.cell? ⟨gb302, 3, none⟩ = some (.slice A0_3 l0_3.length c0_3) := (blk_cell BK302.out 3).trans rfl; have hfz13_0 := blk_frozen BK302.out 0; have hfz13_1 := blk_frozen BK302.out 1; have hfz13_2 := blk_frozen BK302.out 2; have hfz13_3 := blk_frozen BK302.out 3; have p306 : 0 ≤ (a1 : Int) := of_decide_eq_true (by first | (with_reducible assumption) | assumption); have q306 : a1 < (l0_3.length : Int) := of_decide_eq_true (by first | (with_reducible assumption) | assumption); obtain ⟨ad306, A306_0, c306_0, e306, hx306_0, hx306_1, hx306_2, hx306_3, hx306_4, hl306_0, hi306_0⟩ := at_T79 HR0_3.out a1 p306 q306; cases e306; replace hx306_0 := (HB.out.cell (World.block_lt_of_cell? w _ hx306_0)).trans hx306_0; replace hx306_1 := (HB.out.cell (World.block_lt_of_cell? w _ hx306_1)).trans hx306_1; replace hx306_2 := (HB.out.cell (World.block_lt_of_cell? w _ hx306_2)).trans hx306_2; replace hx306_3 := (HB.out.cell (World.block_lt_of_cell? w _ hx306_3)).trans hx306_3; replace hx306_4 := (HB.out.cell (World.block_lt_of_cell? w _ hx306_4)).trans hx306_4; have HR306_0 := Aside0.mk hi306_0; have HC306_0 := Aside0.mk hl306_0; clear hi306_0 hl306_0; replace p306 := eq_true p306; replace q306 := eq_true q306) | ((with_reducible refine gate_callee (f := 39) rfl ?_); refine goesL_ (some 21) rfl rfl Try.func39 (by kernel_rfl) rfl #[.agg #[.slice A306_0 ((rd_T79 l0_3 a1).f0).length c306_0, .int .u8 ((rd_T79 l0_3 a1).f1), .int .i64 ((rd_T79 l0_3 a1).f2), .int .i64 ((rd_T79 l0_3 a1).f3), .int .i64 ((rd_T79 l0_3 a1).f4)]] rfl (by (try simp only [List.map_toArray, List.map_cons, List.map_nil]); first | done | rfl | (simp only [List.length_drop, List.length_take]; rfl)) ?_; (with_reducible refine (ontimeref17_Succ.calls k _ _ ((rd_T79 l0_3 a1).f0) ((rd_T79 l0_3 a1).f1) ((rd_T79 l0_3 a1).f2) ((rd_T79 l0_3 a1).f3) ((rd_T79 l0_3 a1).f4) t307 _ ?side1 ?side2 A8.out).mono ?_); (case side1 => repeat (first | exact (Kd.C_below HR306_0.out HB.out) | (with_reducible refine Kd.C_alloc ?_ _) | (with_reducible refine Kd.C_drewN ?_ _) | (with_reducible refine Kd.C_drew ?_))); (case side2 => exact HC306_0.out); rintro e w14 ⟨v308, rfl, ho0, hb⟩; refine ⟨_, rfl, ?_⟩; have n0_ := Aside0.mk (Kd.R_below (by (with_reducible repeat (first | apply Kd.R_alloc | apply Kd.R_drewN | apply Kd.R_drew)); exact HO305.out) hb); have n1_ := Aside0.mk (Kd.R_lower ho0 (below_size (by repeat (first | (with_reducible first | exact HB.out | apply below_alloc | apply pw_below_drewN | apply below_drew1 | refine below_set ?_ GE302.out) | exact HB.out)))); have n2_ := Aside0.mk (blk_below (g := gb302) (o := .cells #[.string a0_0, .int .i64 a0_1, .slice A0_2 l0_2.length c0_2, .slice (some ad306) l0_3.length c0_3] 36 (0, 0)) (by (with_reducible repeat (first | refine blk_drewN ?_ _ | refine blk_drew ?_ | refine blk_alloc ?_ _)); exact BK302.out) hb); have n3_ := Aside0.mk (below_step (by repeat (first | (with_reducible first | exact HB.out | apply below_alloc | apply pw_below_drewN | apply below_drew1 | refine below_set ?_ GE302.out) | exact HB.out)) hb); clear HO305; clear BK302; clear HB; have HO305 := n0_; have HO309 := n1_; have BK302 := n2_; have HB := n3_; clear n0_ n1_ n2_ n3_; (try clear hb); (try clear hb2); (try clear hk); (try clear hi); (try clear ho0)))
          go_loopg [8] k (fun kq v8 w' => ∃ (x7_1 : List Bool) (x8_1 : List Int), Aside0 (ontimeref19_Leaves.l0 kq a2 x7_1 x8_1 a0_0 a0_1 l0_2 l0_3 = some r) ∧ Aside0 (kq ≤ k) ∧ Aside0 (Kd.R Kd.bool 4 w' w.heap.size (fun _ => True) v304 x7_1) ∧ Aside0 (Kd.Q (Kd.int .i64) 3 w' w.heap.size (fun _ => True) v8 x8_1) ∧ Aside0 (w'.heap[gb302]? = some (.cells #[.string a0_0, .int .i64 a0_1, (.slice A0_2 l0_2.length c0_2), (.slice (some ad306) l0_3.length c0_3)] 36 (0, 0))) ∧ Aside0 (Below w.heap.size w w'))
          case atStart => exact ⟨(y303), (t307), H', ⟨Nat.le_refl _⟩, ⟨by (with_reducible repeat (first | apply Kd.R_alloc | apply Kd.R_drewN | apply Kd.R_drew)); exact HO305.out⟩, ⟨Kd.Q_of_R (by (with_reducible repeat (first | apply Kd.R_alloc | apply Kd.R_drewN | apply Kd.R_drew)); exact HO309.out)⟩, ⟨by (with_reducible repeat (first | refine blk_drewN ?_ _ | refine blk_drew ?_ | refine blk_alloc ?_ _)); exact BK302.out⟩, ⟨by repeat (first | (with_reducible first | exact HB.out | apply below_alloc | apply pw_below_drewN | apply below_drew1 | refine below_set ?_ GE302.out) | exact HB.out)⟩⟩
          case round =>
            clear H'
            try clear p2
            try clear c3
            try clear p3
            try clear q3
            try clear hx3
            try clear c4
            try clear c4b0
            try clear c4b1
            try clear c5
            try clear c5b0
            try clear c5b1
            try clear c6
            try clear c6b0
            try clear c7
            try clear c7b0
            try clear hcz10_0
            try clear hcz10_1
            try clear hcz10_2
            try clear hcz10_3
            try clear hcz13_0
            try clear hcz13_1
            try clear hcz13_2
            try clear hcz13_3
            try clear hfz10_0
            try clear hfz10_1
            try clear hfz10_2
            try clear hfz10_3
            try clear hfz13_0
            try clear hfz13_1
            try clear hfz13_2
            try clear hfz13_3
            try clear hx306_0
            try clear hx306_1
            try clear hx306_2
            try clear hx306_3
            try clear hx306_4
            try clear p306
            try clear q306
            obtain ⟨x7_1, x8_1, HA, HK1, HO_7, HO_8, BK302, HB⟩ := hrel
            cases gk with
            | zero => exact absurd HA.out (by simp [ontimeref19_Leaves.l0])
            | succ k1 =>
              have H := HA.out
              clear HA
              simp only [ontimeref19_Leaves.l0] at H
              by_cases c15 : (x8_1.length : Int) > 0
              · rw [if_pos c15] at H
                have c15b0 : decide (0 < (x8_1.length : Int)) = true := decide_eq_true c15
                have c15b1 : decide (0 < x8_1.length) = true := decide_eq_true (by omega)
                clear c15
                by_cases c16 : 0 < (x8_1.length : Int)
                · rw [if_pos c16] at H
                  have c16b0 : decide (0 < (x8_1.length : Int)) = true := decide_eq_true c16
                  have c16b1 : decide (0 < x8_1.length) = true := decide_eq_true (by omega)
                  clear c16
                  by_cases c17 : 1 ≤ (x8_1.length : Int)
                  · rw [if_pos c17] at H
                    have c17b0 := eq_true c17
                    have c17b1 : decide (1 ≤ (x8_1.length : Int)) = true := decide_eq_true c17
                    clear c17
                    obtain ⟨y311, hy311⟩ : ∃ y_ : List Int, y_ = (x8_1.drop (1 : Int).toNat) := ⟨_, rfl⟩
                    replace H : (if 0 ≤ (rd x8_1 0) then (if (rd x8_1 0) < (x7_1.length : Int) then (if rdOf false x7_1 (rd x8_1 0) = true then (ontimeref19_Leaves.l0 k1 a2 x7_1 y311 a0_0 a0_1 l0_2 l0_3) else ((some (x7_1.set ((rd x8_1 0) : Int).toNat true : List Bool)).bind fun y315 => ((ontimeref19_reaches.f k1 a0_0 a0_1 l0_2 l0_3 (rd x8_1 0) 0 a2).bind fun bt316 => (if bt316.1 = true then (some true) else (if bt316.2 = true then ((some (([] : List Int) : List Int)).bind fun y318 => (if y318.length + y311.length < 17592186044416 then ((some (y318 ++ y311 : List Int)).bind fun y321 => (if (rd x8_1 0) < (l0_3.length : Int) then ((ontimeref17_Succ.f k1 ((rd_T79 l0_3 (rd x8_1 0)).f0) ((rd_T79 l0_3 (rd x8_1 0)).f1) ((rd_T79 l0_3 (rd x8_1 0)).f2) ((rd_T79 l0_3 (rd x8_1 0)).f3) ((rd_T79 l0_3 (rd x8_1 0)).f4)).bind fun t325 => (if y321.length + t325.length < 17592186044416 then (ontimeref19_Leaves.l0 k1 a2 y315 (y321 ++ t325) a0_0 a0_1 l0_2 l0_3) else (none))) else (none))) else (none))) else (ontimeref19_Leaves.l0 k1 a2 y315 y311 a0_0 a0_1 l0_2 l0_3)))))) else (none)) else (none)) = some r := by first | (rw [hy311]; with_reducible exact H) | (have H2_ := (Option.bind_some _ _).symm.trans H; rw [hy311]; with_reducible exact H2_) | (have H2_ := (Option.bind_some _ _).symm.trans H; with_reducible exact H2_) | with_reducible exact H | (rw [hy311]; exact H) | exact H
                    have Ny311 := Aside0.mk hy311
                    clear hy311
                    by_cases c18 : 0 ≤ (rd x8_1 0)
                    · rw [if_pos c18] at H
                      have c18b0 : decide (0 ≤ (rd x8_1 0)) = true := decide_eq_true c18
                      clear c18
                      by_cases c19 : (rd x8_1 0) < (x7_1.length : Int)
                      · rw [if_pos c19] at H
                        have c19b0 : decide ((rd x8_1 0) < (x7_1.length : Int)) = true := decide_eq_true c19
                        clear c19
                        obtain ⟨bq20, hbq20⟩ : ∃ b_ : Bool, b_ = (rdOf false x7_1 (rd x8_1 0)) := ⟨_, rfl⟩
                        replace H : (if bq20 = true then (ontimeref19_Leaves.l0 k1 a2 x7_1 y311 a0_0 a0_1 l0_2 l0_3) else ((some (x7_1.set ((rd x8_1 0) : Int).toNat true : List Bool)).bind fun y315 => ((ontimeref19_reaches.f k1 a0_0 a0_1 l0_2 l0_3 (rd x8_1 0) 0 a2).bind fun bt316 => (if bt316.1 = true then (some true) else (if bt316.2 = true then ((some (([] : List Int) : List Int)).bind fun y318 => (if y318.length + y311.length < 17592186044416 then ((some (y318 ++ y311 : List Int)).bind fun y321 => (if (rd x8_1 0) < (l0_3.length : Int) then ((ontimeref17_Succ.f k1 ((rd_T79 l0_3 (rd x8_1 0)).f0) ((rd_T79 l0_3 (rd x8_1 0)).f1) ((rd_T79 l0_3 (rd x8_1 0)).f2) ((rd_T79 l0_3 (rd x8_1 0)).f3) ((rd_T79 l0_3 (rd x8_1 0)).f4)).bind fun t325 => (if y321.length + t325.length < 17592186044416 then (ontimeref19_Leaves.l0 k1 a2 y315 (y321 ++ t325) a0_0 a0_1 l0_2 l0_3) else (none))) else (none))) else (none))) else (ontimeref19_Leaves.l0 k1 a2 y315 y311 a0_0 a0_1 l0_2 l0_3)))))) = some r := by rw [← hbq20] at H; exact H
                        have Nbq20 := Aside0.mk hbq20
                        clear hbq20
                        by_cases c21 : bq20 = true
                        · subst c21
                          have H1 : (ontimeref19_Leaves.l0 k1 a2 x7_1 y311 a0_0 a0_1 l0_2 l0_3) = some r := by rw [if_pos rfl] at H; exact H
                          clear H
                          have H := H1
                          clear H1
                          have H' := Aside0.mk H
                          clear H
                          obtain ⟨Ao22, co22, eo22, _⟩ := Kd.Q_slice HO_8.out
                          subst eo22
                          have p310 : 0 ≤ (0 : Int) := (by omega)
                          have q310 : 0 < (x8_1.length : Int) := of_decide_eq_true (by first | (with_reducible assumption) | assumption)
                          obtain ⟨ad310, e310, hx310_0⟩ := Kd.at_int (Kd.Q_reads' HO_8.out).2.2 0 p310 q310
                          cases e310
                          have qi310 : (0 < x8_1.length) = True := eq_true (by omega)
                          (try rw [show ((0 : Int)).toNat = 0 from rfl] at hx310_0)
                          (try rw [Addr.add_zero'] at hx310_0)
                          replace p310 := eq_true p310
                          replace q310 := eq_true q310
                          have q23 : (1 : Int) ≤ ((x8_1.length : Int) : Int) := of_decide_eq_true (by first | (with_reducible assumption) | assumption)
                          obtain ⟨i023, hi023, _, hsz23, _⟩ := info_parts info3
                          have hcut23 := cut_from (P := Try.prog) 39 3 .i64 Try.underlying39 hi023 1 hsz23 (some ad310) x8_1.length co22 1 (by omega) q23
                          have hr23 := Kd.Q_drop (k := (1 : Int).toNat) HO_8.out (by omega)
                          obtain ⟨A23, hA23⟩ : ∃ A1, A1 = (if co22 = (1 : Int).toNat then (some ad310) else ((some ad310) : Option Addr).map (·.add ((1 : Int).toNat * 1))) := ⟨_, rfl⟩
                          obtain ⟨c23, hc23⟩ : ∃ c1, c1 = co22 - (1 : Int).toNat := ⟨_, rfl⟩
                          have hy23 : y311.length = x8_1.length - (1 : Int).toNat := (by rw [Ny311.out, List.length_drop])
                          rw [← Ny311.out] at hr23
                          rw [← hy23, ← hA23, ← hc23] at hcut23
                          replace hr23 : Kd.Q (Kd.int .i64) 3 wr w.heap.size (fun _ => True) (.slice A23 y311.length c23) y311 := (by rw [hA23, hc23, hy23]; exact hr23)
                          have HE23 : Aside0 ((Value.slice A23 y311.length c23).ownBlock = (.slice (some ad310) x8_1.length co22 : Value).ownBlock) := ⟨by rw [hA23]; split <;> (cases ((some ad310) : Option Addr) <;> rfl)⟩
                          clear hy23 hi023 hsz23 HO_8 hA23 hc23
                          have HO313 := Aside0.mk hr23
                          clear hr23
                          replace q23 := eq_true q23
                          obtain ⟨Ao24, co24, eo24⟩ := Kd.R_slice HO_7.out
                          subst eo24
                          have p314 : 0 ≤ ((rd x8_1 0) : Int) := of_decide_eq_true (by first | (with_reducible assumption) | assumption)
                          have q314 : (rd x8_1 0) < (x7_1.length : Int) := of_decide_eq_true (by first | (with_reducible assumption) | assumption)
                          obtain ⟨ad314, e314, hx314_0⟩ := Kd.at_bool (Kd.R_reads' HO_7.out).2.2 (rd x8_1 0) p314 q314
                          (try rw [← Nbq20.out] at hx314_0)
                          cases e314
                          replace p314 := eq_true p314
                          replace q314 := eq_true q314
                          go_wp2
                          go_roundg k1
                          case measure => have := HK1.out; omega
                          case rel => exact ⟨(x7_1), (y311), H', ⟨by have := HK1.out; omega⟩, ⟨by (with_reducible repeat (first | apply Kd.R_alloc | apply Kd.R_drewN | apply Kd.R_drew)); exact HO_7.out⟩, ⟨by (with_reducible repeat (first | apply Kd.Q_alloc | apply Kd.Q_drewN | apply Kd.Q_drew)); exact HO313.out⟩, ⟨by (with_reducible repeat (first | refine blk_drewN ?_ _ | refine blk_drew ?_ | refine blk_alloc ?_ _)); exact BK302.out⟩, ⟨by repeat (first | (with_reducible first | exact HB.out | apply below_alloc | apply pw_below_drewN | apply below_drew1 | refine below_set ?_ GE302.out) | exact HB.out)⟩⟩
                        · replace c21 := Bool.eq_false_iff.mpr c21
                          subst c21
                          have H1 : ((some (x7_1.set ((rd x8_1 0) : Int).toNat true : List Bool)).bind fun y315 => ((ontimeref19_reaches.f k1 a0_0 a0_1 l0_2 l0_3 (rd x8_1 0) 0 a2).bind fun bt316 => (if bt316.1 = true then (some true) else (if bt316.2 = true then ((some (([] : List Int) : List Int)).bind fun y318 => (if y318.length + y311.length < 17592186044416 then ((some (y318 ++ y311 : List Int)).bind fun y321 => (if (rd x8_1 0) < (l0_3.length : Int) then ((ontimeref17_Succ.f k1 ((rd_T79 l0_3 (rd x8_1 0)).f0) ((rd_T79 l0_3 (rd x8_1 0)).f1) ((rd_T79 l0_3 (rd x8_1 0)).f2) ((rd_T79 l0_3 (rd x8_1 0)).f3) ((rd_T79 l0_3 (rd x8_1 0)).f4)).bind fun t325 => (if y321.length + t325.length < 17592186044416 then (ontimeref19_Leaves.l0 k1 a2 y315 (y321 ++ t325) a0_0 a0_1 l0_2 l0_3) else (none))) else (none))) else (none))) else (ontimeref19_Leaves.l0 k1 a2 y315 y311 a0_0 a0_1 l0_2 l0_3))))) = some r := by rw [if_neg (show ¬ (false = true) by decide)] at H; exact H
                          clear H
                          have H := H1
                          clear H1
                          obtain ⟨y315, hy315⟩ : ∃ y_ : List Bool, y_ = (x7_1.set ((rd x8_1 0) : Int).toNat true) := ⟨_, rfl⟩
                          replace H : ((ontimeref19_reaches.f k1 a0_0 a0_1 l0_2 l0_3 (rd x8_1 0) 0 a2).bind fun bt316 => (if bt316.1 = true then (some true) else (if bt316.2 = true then ((some (([] : List Int) : List Int)).bind fun y318 => (if y318.length + y311.length < 17592186044416 then ((some (y318 ++ y311 : List Int)).bind fun y321 => (if (rd x8_1 0) < (l0_3.length : Int) then ((ontimeref17_Succ.f k1 ((rd_T79 l0_3 (rd x8_1 0)).f0) ((rd_T79 l0_3 (rd x8_1 0)).f1) ((rd_T79 l0_3 (rd x8_1 0)).f2) ((rd_T79 l0_3 (rd x8_1 0)).f3) ((rd_T79 l0_3 (rd x8_1 0)).f4)).bind fun t325 => (if y321.length + t325.length < 17592186044416 then (ontimeref19_Leaves.l0 k1 a2 y315 (y321 ++ t325) a0_0 a0_1 l0_2 l0_3) else (none))) else (none))) else (none))) else (ontimeref19_Leaves.l0 k1 a2 y315 y311 a0_0 a0_1 l0_2 l0_3)))) = some r := by first | (rw [hy315]; with_reducible exact H) | (have H2_ := (Option.bind_some _ _).symm.trans H; rw [hy315]; with_reducible exact H2_) | (have H2_ := (Option.bind_some _ _).symm.trans H; with_reducible exact H2_) | with_reducible exact H | (rw [hy315]; exact H) | exact H
                          have Ny315 := Aside0.mk hy315
                          clear hy315
                          replace H := Option.bind_eq_some_iff.mp H
                          obtain ⟨⟨t316, t317⟩, A260, H⟩ := H
                          replace H : (if t316 = true then (some true) else (if t317 = true then ((some (([] : List Int) : List Int)).bind fun y318 => (if y318.length + y311.length < 17592186044416 then ((some (y318 ++ y311 : List Int)).bind fun y321 => (if (rd x8_1 0) < (l0_3.length : Int) then ((ontimeref17_Succ.f k1 ((rd_T79 l0_3 (rd x8_1 0)).f0) ((rd_T79 l0_3 (rd x8_1 0)).f1) ((rd_T79 l0_3 (rd x8_1 0)).f2) ((rd_T79 l0_3 (rd x8_1 0)).f3) ((rd_T79 l0_3 (rd x8_1 0)).f4)).bind fun t325 => (if y321.length + t325.length < 17592186044416 then (ontimeref19_Leaves.l0 k1 a2 y315 (y321 ++ t325) a0_0 a0_1 l0_2 l0_3) else (none))) else (none))) else (none))) else (ontimeref19_Leaves.l0 k1 a2 y315 y311 a0_0 a0_1 l0_2 l0_3))) = some r := H
                          have A26 := Aside0.mk A260
                          clear A260
                          by_cases c27 : t316 = true
                          · subst c27
                            have H1 : (some true) = some r := by rw [if_pos rfl] at H; exact H
                            clear H
                            have H := H1
                            clear H1
                            obtain rfl := Option.some.inj H
                            obtain ⟨Ao28, co28, eo28, _⟩ := Kd.Q_slice HO_8.out
                            subst eo28
                            have p310 : 0 ≤ (0 : Int) := (by omega)
                            have q310 : 0 < (x8_1.length : Int) := of_decide_eq_true (by first | (with_reducible assumption) | assumption)
                            obtain ⟨ad310, e310, hx310_0⟩ := Kd.at_int (Kd.Q_reads' HO_8.out).2.2 0 p310 q310
                            cases e310
                            have qi310 : (0 < x8_1.length) = True := eq_true (by omega)
                            (try rw [show ((0 : Int)).toNat = 0 from rfl] at hx310_0)
                            (try rw [Addr.add_zero'] at hx310_0)
                            replace p310 := eq_true p310
                            replace q310 := eq_true q310
                            have q29 : (1 : Int) ≤ ((x8_1.length : Int) : Int) := of_decide_eq_true (by first | (with_reducible assumption) | assumption)
                            obtain ⟨i029, hi029, _, hsz29, _⟩ := info_parts info3
                            have hcut29 := cut_from (P := Try.prog) 39 3 .i64 Try.underlying39 hi029 1 hsz29 (some ad310) x8_1.length co28 1 (by omega) q29
                            have hr29 := Kd.Q_drop (k := (1 : Int).toNat) HO_8.out (by omega)
                            obtain ⟨A29, hA29⟩ : ∃ A1, A1 = (if co28 = (1 : Int).toNat then (some ad310) else ((some ad310) : Option Addr).map (·.add ((1 : Int).toNat * 1))) := ⟨_, rfl⟩
                            obtain ⟨c29, hc29⟩ : ∃ c1, c1 = co28 - (1 : Int).toNat := ⟨_, rfl⟩
                            have hy29 : y311.length = x8_1.length - (1 : Int).toNat := (by rw [Ny311.out, List.length_drop])
                            rw [← Ny311.out] at hr29
                            rw [← hy29, ← hA29, ← hc29] at hcut29
                            replace hr29 : Kd.Q (Kd.int .i64) 3 wr w.heap.size (fun _ => True) (.slice A29 y311.length c29) y311 := (by rw [hA29, hc29, hy29]; exact hr29)
                            have HE29 : Aside0 ((Value.slice A29 y311.length c29).ownBlock = (.slice (some ad310) x8_1.length co28 : Value).ownBlock) := ⟨by rw [hA29]; split <;> (cases ((some ad310) : Option Addr) <;> rfl)⟩
                            clear hy29 hi029 hsz29 HO_8 hA29 hc29
                            have HO313 := Aside0.mk hr29
                            clear hr29
                            replace q29 := eq_true q29
                            obtain ⟨Ao30, co30, eo30⟩ := Kd.R_slice HO_7.out
                            subst eo30
                            have p314 : 0 ≤ ((rd x8_1 0) : Int) := of_decide_eq_true (by first | (with_reducible assumption) | assumption)
                            have q314 : (rd x8_1 0) < (x7_1.length : Int) := of_decide_eq_true (by first | (with_reducible assumption) | assumption)
                            obtain ⟨ad314, e314, hx314_0⟩ := Kd.at_bool (Kd.R_reads' HO_7.out).2.2 (rd x8_1 0) p314 q314
                            (try rw [← Nbq20.out] at hx314_0)
                            cases e314
                            replace p314 := eq_true p314
                            replace q314 := eq_true q314
                            have p25 : 0 ≤ ((rd x8_1 0) : Int) := of_decide_eq_true (by first | (with_reducible assumption) | assumption)
                            have q25 : ((rd x8_1 0) : Int) < ((x7_1.length : Int) : Int) := of_decide_eq_true (by first | (with_reducible assumption) | assumption)
                            obtain ⟨go25, co25, eo25, gb25, gl25, cl25, HG25⟩ := Kd.R_form HO_7.out (by omega)
                            (first | cases eo25 | (injection eo25 with ea_ en_ ec_; (first | subst ea_ | (injection ea_ with ea_; subst ea_)); subst ec_; clear en_))
                            have GB25 := Aside0.mk gb25
                            have GG25 := Aside0.mk HG25
                            clear gb25 gl25 HG25
                            (first | simp only [add_plain] at hx314_0 | skip)
                            obtain ⟨hx25_0, hf25_0⟩ := Kd.R_celln false HO_7.out ((rd x8_1 0) : Int) p25 q25
                            replace p25 := eq_true p25
                            replace q25 := eq_true q25
                            have HP31 := Kd.R_putg HO_7.out ((rd x8_1 0) : Int) true
                            go_wp2_with (first | ((with_reducible refine gate_store (t := 4) (p := 36) rfl ?_); refine store_event (t := 4) (p := 36) (v := ?vo_w32) (w1 := (wr.setCell ⟨go25, ((rd x8_1 0) : Int).toNat, none⟩ (.bool true))) ?hg ?ho ?hn ?hr ?_; (case ho => rfl); (case hg => rfl); (case hn => rfl); (case hr => first | (go_simp; done) | (go_simp; rfl)); intro w32 hw; have hg : wr.grownBy w32 (some go25) := (by rw [hw]; exact HP31.2); have hp_ : Kd.R Kd.bool 4 w32 w.heap.size (fun _ => True) (.slice (some ⟨go25, 0, none⟩) x7_1.length co30) y315 := (by rw [hw, Ny315.out]; exact HP31.1); clear HP31; have n0_ := Aside0.mk (hp_); have n1_ := Aside0.mk (Kd.Q_over' (v := (.slice (some ⟨go25, 0, none⟩) x7_1.length co30)) (by (with_reducible repeat (first | apply Kd.Q_alloc | apply Kd.Q_drewN | apply Kd.Q_drew)); exact HO313.out) (Kd.R_typed HO_7.out) (by decide) hg); have n2_ := Aside0.mk (blk_grown (g := gb302) (o := .cells #[.string a0_0, .int .i64 a0_1, .slice A0_2 l0_2.length c0_2, .slice (some ad306) l0_3.length c0_3] 36 (0, 0)) (by (with_reducible repeat (first | refine blk_drewN ?_ _ | refine blk_drew ?_ | refine blk_alloc ?_ _)); exact BK302.out) hg (Kd.R_ne HO_7.out BK302.out (by decide))); have n3_ := Aside0.mk ((by rw [hw]; exact below_set (HB.out) GB25.out : Below w.heap.size w w32)); clear HO_7; clear HO313; clear BK302; clear HB; have HO_7 := n0_; have HO313 := n1_; have BK302 := n2_; have HB := n3_; clear n0_ n1_ n2_ n3_; clear hg hw hp_; have hcz33_0 : w32.cell? ⟨gb302, 0, none⟩ = some (.string a0_0) := (blk_cell BK302.out 0).trans rfl; have hcz33_1 : w32.cell? ⟨gb302, 1, none⟩ = some (.int .i64 a0_1) := (blk_cell BK302.out 1).trans rfl; have hcz33_2 : w32.cell? ⟨gb302, 2, none⟩ = some (.slice A0_2 l0_2.length c0_2) := (blk_cell BK302.out 2).trans rfl; have hcz33_3 : w32.cell? ⟨gb302, 3, none⟩ = some (.slice (some ad306) l0_3.length c0_3) := (blk_cell BK302.out 3).trans rfl; have hfz33_0 := blk_frozen BK302.out 0; have hfz33_1 := blk_frozen BK302.out 1; have hfz33_2 := blk_frozen BK302.out 2; have hfz33_3 := blk_frozen BK302.out 3) | ((with_reducible refine gate_callee (f := 69) rfl ?_); refine goesL_ (some 41) rfl rfl Try.func69 (by kernel_rfl) rfl #[.agg #[.string a0_0, .int .i64 a0_1, .slice A0_2 l0_2.length c0_2, .slice (some ad306) l0_3.length c0_3], .int .i64 (rd x8_1 0), .int .i64 0, .int .i64 a2] rfl (by (try simp only [List.map_toArray, List.map_cons, List.map_nil]); first | done | rfl | (simp only [List.length_drop, List.length_take]; rfl)) ?_; (with_reducible refine (ontimeref19_reaches.calls k1 a0_0 a0_1 _ _ l0_2 _ _ l0_3 (rd x8_1 0) 0 a2 true t317 _ ?side1 ?side2 ?side3 ?side4 A26.out).mono ?_); (case side1 => repeat (first | exact (Kd.C_below HR0_2.out HB.out) | (with_reducible refine Kd.C_alloc ?_ _) | (with_reducible refine Kd.C_drewN ?_ _) | (with_reducible refine Kd.C_drew ?_))); (case side2 => exact HC0_2.out); (case side3 => repeat (first | exact (Kd.C_below HR0_3.out HB.out) | (with_reducible refine Kd.C_alloc ?_ _) | (with_reducible refine Kd.C_drewN ?_ _) | (with_reducible refine Kd.C_drew ?_))); (case side4 => exact HC0_3.out); rintro e w34 ⟨rfl, hb⟩; refine ⟨_, rfl, ?_⟩; have n0_ := Aside0.mk (Kd.R_below (by (with_reducible repeat (first | apply Kd.R_alloc | apply Kd.R_drewN | apply Kd.R_drew)); exact HO_7.out) hb); have n1_ := Aside0.mk (Kd.Q_below (by (with_reducible repeat (first | apply Kd.Q_alloc | apply Kd.Q_drewN | apply Kd.Q_drew)); exact HO313.out) hb); have n2_ := Aside0.mk (blk_below (g := gb302) (o := .cells #[.string a0_0, .int .i64 a0_1, .slice A0_2 l0_2.length c0_2, .slice (some ad306) l0_3.length c0_3] 36 (0, 0)) (by (with_reducible repeat (first | refine blk_drewN ?_ _ | refine blk_drew ?_ | refine blk_alloc ?_ _)); exact BK302.out) hb); have n3_ := Aside0.mk (below_step (by repeat (first | (with_reducible first | exact HB.out | apply below_alloc | apply pw_below_drewN | apply below_drew1 | refine below_set ?_ GE302.out) | exact HB.out)) hb); clear HO_7; clear HO313; clear BK302; clear HB; have HO_7 := n0_; have HO313 := n1_; have BK302 := n2_; have HB := n3_; clear n0_ n1_ n2_ n3_; (try clear hb); (try clear hb2); (try clear hk); (try clear hi)))
                            go_ret
                            exact ⟨by first | rfl | (simp [errW_none, errW_some] <;> rfl) | (simp [*, errW_none, errW_some] <;> rfl), by repeat (first | (with_reducible first | exact HB.out | apply below_alloc | apply pw_below_drewN | apply below_drew1 | refine below_set ?_ GE302.out) | exact HB.out)⟩
                          · replace c27 := Bool.eq_false_iff.mpr c27
                            subst c27
                            have H1 : (if t317 = true then ((some (([] : List Int) : List Int)).bind fun y318 => (if y318.length + y311.length < 17592186044416 then ((some (y318 ++ y311 : List Int)).bind fun y321 => (if (rd x8_1 0) < (l0_3.length : Int) then ((ontimeref17_Succ.f k1 ((rd_T79 l0_3 (rd x8_1 0)).f0) ((rd_T79 l0_3 (rd x8_1 0)).f1) ((rd_T79 l0_3 (rd x8_1 0)).f2) ((rd_T79 l0_3 (rd x8_1 0)).f3) ((rd_T79 l0_3 (rd x8_1 0)).f4)).bind fun t325 => (if y321.length + t325.length < 17592186044416 then (ontimeref19_Leaves.l0 k1 a2 y315 (y321 ++ t325) a0_0 a0_1 l0_2 l0_3) else (none))) else (none))) else (none))) else (ontimeref19_Leaves.l0 k1 a2 y315 y311 a0_0 a0_1 l0_2 l0_3)) = some r := by rw [if_neg (show ¬ (false = true) by decide)] at H; exact H
                            clear H
                            have H := H1
                            clear H1
                            by_cases c35 : t317 = true
                            · subst c35
                              have H1 : ((some (([] : List Int) : List Int)).bind fun y318 => (if y318.length + y311.length < 17592186044416 then ((some (y318 ++ y311 : List Int)).bind fun y321 => (if (rd x8_1 0) < (l0_3.length : Int) then ((ontimeref17_Succ.f k1 ((rd_T79 l0_3 (rd x8_1 0)).f0) ((rd_T79 l0_3 (rd x8_1 0)).f1) ((rd_T79 l0_3 (rd x8_1 0)).f2) ((rd_T79 l0_3 (rd x8_1 0)).f3) ((rd_T79 l0_3 (rd x8_1 0)).f4)).bind fun t325 => (if y321.length + t325.length < 17592186044416 then (ontimeref19_Leaves.l0 k1 a2 y315 (y321 ++ t325) a0_0 a0_1 l0_2 l0_3) else (none))) else (none))) else (none))) = some r := by rw [if_pos rfl] at H; exact H
                              clear H
                              have H := H1
                              clear H1
                              obtain ⟨y318, hy318⟩ : ∃ y_ : List Int, y_ = (([] : List Int)) := ⟨_, rfl⟩
                              replace H : (if y318.length + y311.length < 17592186044416 then ((some (y318 ++ y311 : List Int)).bind fun y321 => (if (rd x8_1 0) < (l0_3.length : Int) then ((ontimeref17_Succ.f k1 ((rd_T79 l0_3 (rd x8_1 0)).f0) ((rd_T79 l0_3 (rd x8_1 0)).f1) ((rd_T79 l0_3 (rd x8_1 0)).f2) ((rd_T79 l0_3 (rd x8_1 0)).f3) ((rd_T79 l0_3 (rd x8_1 0)).f4)).bind fun t325 => (if y321.length + t325.length < 17592186044416 then (ontimeref19_Leaves.l0 k1 a2 y315 (y321 ++ t325) a0_0 a0_1 l0_2 l0_3) else (none))) else (none))) else (none)) = some r := by first | (rw [hy318]; with_reducible exact H) | (have H2_ := (Option.bind_some _ _).symm.trans H; rw [hy318]; with_reducible exact H2_) | (have H2_ := (Option.bind_some _ _).symm.trans H; with_reducible exact H2_) | with_reducible exact H | (rw [hy318]; exact H) | exact H
                              have Ny318 := Aside0.mk hy318
                              clear hy318
                              by_cases c36 : y318.length + y311.length < 17592186044416
                              · rw [if_pos c36] at H
                                have LMc36 := Aside0.mk c36
                                clear c36
                                obtain ⟨y321, hy321⟩ : ∃ y_ : List Int, y_ = (y318 ++ y311) := ⟨_, rfl⟩
                                replace H : (if (rd x8_1 0) < (l0_3.length : Int) then ((ontimeref17_Succ.f k1 ((rd_T79 l0_3 (rd x8_1 0)).f0) ((rd_T79 l0_3 (rd x8_1 0)).f1) ((rd_T79 l0_3 (rd x8_1 0)).f2) ((rd_T79 l0_3 (rd x8_1 0)).f3) ((rd_T79 l0_3 (rd x8_1 0)).f4)).bind fun t325 => (if y321.length + t325.length < 17592186044416 then (ontimeref19_Leaves.l0 k1 a2 y315 (y321 ++ t325) a0_0 a0_1 l0_2 l0_3) else (none))) else (none)) = some r := by first | (rw [hy321]; with_reducible exact H) | (have H2_ := (Option.bind_some _ _).symm.trans H; rw [hy321]; with_reducible exact H2_) | (have H2_ := (Option.bind_some _ _).symm.trans H; with_reducible exact H2_) | with_reducible exact H | (rw [hy321]; exact H) | exact H
                                have Ny321 := Aside0.mk hy321
                                clear hy321
                                by_cases c37 : (rd x8_1 0) < (l0_3.length : Int)
                                · rw [if_pos c37] at H
                                  have c37b0 : decide ((rd x8_1 0) < (l0_3.length : Int)) = true := decide_eq_true c37
                                  clear c37
                                  replace H := Option.bind_eq_some_iff.mp H
                                  obtain ⟨t325, A380, H⟩ := H
                                  replace H : (if y321.length + t325.length < 17592186044416 then (ontimeref19_Leaves.l0 k1 a2 y315 (y321 ++ t325) a0_0 a0_1 l0_2 l0_3) else (none)) = some r := H
                                  have A38 := Aside0.mk A380
                                  clear A380
                                  by_cases c39 : y321.length + t325.length < 17592186044416
                                  · rw [if_pos c39] at H
                                    have LMc39 := Aside0.mk c39
                                    clear c39
                                    obtain ⟨y328, hy328⟩ : ∃ y_ : List Int, y_ = (y321 ++ t325) := ⟨_, rfl⟩
                                    replace H : (ontimeref19_Leaves.l0 k1 a2 y315 y328 a0_0 a0_1 l0_2 l0_3) = some r := by first | (rw [hy328]; with_reducible exact H) | (have H2_ := (Option.bind_some _ _).symm.trans H; rw [hy328]; with_reducible exact H2_) | (have H2_ := (Option.bind_some _ _).symm.trans H; with_reducible exact H2_) | with_reducible exact H | (rw [hy328]; exact H) | exact H
                                    have Ny328 := Aside0.mk hy328
                                    clear hy328
                                    have H' := Aside0.mk H
                                    clear H
                                    obtain ⟨Ao40, co40, eo40, _⟩ := Kd.Q_slice HO_8.out
                                    subst eo40
                                    have p310 : 0 ≤ (0 : Int) := (by omega)
                                    have q310 : 0 < (x8_1.length : Int) := of_decide_eq_true (by first | (with_reducible assumption) | assumption)
                                    obtain ⟨ad310, e310, hx310_0⟩ := Kd.at_int (Kd.Q_reads' HO_8.out).2.2 0 p310 q310
                                    cases e310
                                    have qi310 : (0 < x8_1.length) = True := eq_true (by omega)
                                    (try rw [show ((0 : Int)).toNat = 0 from rfl] at hx310_0)
                                    (try rw [Addr.add_zero'] at hx310_0)
                                    replace p310 := eq_true p310
                                    replace q310 := eq_true q310
                                    have q41 : (1 : Int) ≤ ((x8_1.length : Int) : Int) := of_decide_eq_true (by first | (with_reducible assumption) | assumption)
                                    obtain ⟨i041, hi041, _, hsz41, _⟩ := info_parts info3
                                    have hcut41 := cut_from (P := Try.prog) 39 3 .i64 Try.underlying39 hi041 1 hsz41 (some ad310) x8_1.length co40 1 (by omega) q41
                                    have hr41 := Kd.Q_drop (k := (1 : Int).toNat) HO_8.out (by omega)
                                    obtain ⟨A41, hA41⟩ : ∃ A1, A1 = (if co40 = (1 : Int).toNat then (some ad310) else ((some ad310) : Option Addr).map (·.add ((1 : Int).toNat * 1))) := ⟨_, rfl⟩
                                    obtain ⟨c41, hc41⟩ : ∃ c1, c1 = co40 - (1 : Int).toNat := ⟨_, rfl⟩
                                    have hy41 : y311.length = x8_1.length - (1 : Int).toNat := (by rw [Ny311.out, List.length_drop])
                                    rw [← Ny311.out] at hr41
                                    rw [← hy41, ← hA41, ← hc41] at hcut41
                                    replace hr41 : Kd.Q (Kd.int .i64) 3 wr w.heap.size (fun _ => True) (.slice A41 y311.length c41) y311 := (by rw [hA41, hc41, hy41]; exact hr41)
                                    have HE41 : Aside0 ((Value.slice A41 y311.length c41).ownBlock = (.slice (some ad310) x8_1.length co40 : Value).ownBlock) := ⟨by rw [hA41]; split <;> (cases ((some ad310) : Option Addr) <;> rfl)⟩
                                    clear hy41 hi041 hsz41 HO_8 hA41 hc41
                                    have HO313 := Aside0.mk hr41
                                    clear hr41
                                    replace q41 := eq_true q41
                                    obtain ⟨Ao42, co42, eo42⟩ := Kd.R_slice HO_7.out
                                    subst eo42
                                    have p314 : 0 ≤ ((rd x8_1 0) : Int) := of_decide_eq_true (by first | (with_reducible assumption) | assumption)
                                    have q314 : (rd x8_1 0) < (x7_1.length : Int) := of_decide_eq_true (by first | (with_reducible assumption) | assumption)
                                    obtain ⟨ad314, e314, hx314_0⟩ := Kd.at_bool (Kd.R_reads' HO_7.out).2.2 (rd x8_1 0) p314 q314
                                    (try rw [← Nbq20.out] at hx314_0)
                                    cases e314
                                    replace p314 := eq_true p314
                                    replace q314 := eq_true q314
                                    have p25 : 0 ≤ ((rd x8_1 0) : Int) := of_decide_eq_true (by first | (with_reducible assumption) | assumption)
                                    have q25 : ((rd x8_1 0) : Int) < ((x7_1.length : Int) : Int) := of_decide_eq_true (by first | (with_reducible assumption) | assumption)
                                    obtain ⟨go25, co25, eo25, gb25, gl25, cl25, HG25⟩ := Kd.R_form HO_7.out (by omega)
                                    (first | cases eo25 | (injection eo25 with ea_ en_ ec_; (first | subst ea_ | (injection ea_ with ea_; subst ea_)); subst ec_; clear en_))
                                    have GB25 := Aside0.mk gb25
                                    have GG25 := Aside0.mk HG25
                                    clear gb25 gl25 HG25
                                    (first | simp only [add_plain] at hx314_0 | skip)
                                    obtain ⟨hx25_0, hf25_0⟩ := Kd.R_celln false HO_7.out ((rd x8_1 0) : Int) p25 q25
                                    replace p25 := eq_true p25
                                    replace q25 := eq_true q25
                                    have HP43 := Kd.R_putg HO_7.out ((rd x8_1 0) : Int) true
                                    try go_wp2_with (first | ((with_reducible refine gate_store (t := 4) (p := 36) rfl ?_); refine store_event (t := 4) (p := 36) (v := ?vo_w44) (w1 := (wr.setCell ⟨go25, ((rd x8_1 0) : Int).toNat, none⟩ (.bool true))) ?hg ?ho ?hn ?hr ?_; (case ho => rfl); (case hg => rfl); (case hn => rfl); (case hr => first | (go_simp; done) | (go_simp; rfl)); intro w44 hw; have hg : wr.grownBy w44 (some go25) := (by rw [hw]; exact HP43.2); have hp_ : Kd.R Kd.bool 4 w44 w.heap.size (fun _ => True) (.slice (some ⟨go25, 0, none⟩) x7_1.length co42) y315 := (by rw [hw, Ny315.out]; exact HP43.1); clear HP43; have n0_ := Aside0.mk (hp_); have n1_ := Aside0.mk (Kd.Q_over' (v := (.slice (some ⟨go25, 0, none⟩) x7_1.length co42)) (by (with_reducible repeat (first | apply Kd.Q_alloc | apply Kd.Q_drewN | apply Kd.Q_drew)); exact HO313.out) (Kd.R_typed HO_7.out) (by decide) hg); have n2_ := Aside0.mk (blk_grown (g := gb302) (o := .cells #[.string a0_0, .int .i64 a0_1, .slice A0_2 l0_2.length c0_2, .slice (some ad306) l0_3.length c0_3] 36 (0, 0)) (by (with_reducible repeat (first | refine blk_drewN ?_ _ | refine blk_drew ?_ | refine blk_alloc ?_ _)); exact BK302.out) hg (Kd.R_ne HO_7.out BK302.out (by decide))); have n3_ := Aside0.mk ((by rw [hw]; exact below_set (HB.out) GB25.out : Below w.heap.size w w44)); clear HO_7; clear HO313; clear BK302; clear HB; have HO_7 := n0_; have HO313 := n1_; have BK302 := n2_; have HB := n3_; clear n0_ n1_ n2_ n3_; clear hg hw hp_; have hcz45_0 : w44.cell? ⟨gb302, 0, none⟩ = some (.string a0_0) := (blk_cell BK302.out 0).trans rfl; have hcz45_1 : w44.cell? ⟨gb302, 1, none⟩ = some (.int .i64 a0_1) := (blk_cell BK302.out 1).trans rfl; have hcz45_2 : w44.cell? ⟨gb302, 2, none⟩ = some (.slice A0_2 l0_2.length c0_2) := (blk_cell BK302.out 2).trans rfl; have hcz45_3 : w44.cell? ⟨gb302, 3, none⟩ = some (.slice (some ad306) l0_3.length c0_3) := (blk_cell BK302.out 3).trans rfl; have hfz45_0 := blk_frozen BK302.out 0; have hfz45_1 := blk_frozen BK302.out 1; have hfz45_2 := blk_frozen BK302.out 2; have hfz45_3 := blk_frozen BK302.out 3) | ((with_reducible refine gate_callee (f := 69) rfl ?_); refine goesL_ (some 41) rfl rfl Try.func69 (by kernel_rfl) rfl #[.agg #[.string a0_0, .int .i64 a0_1, .slice A0_2 l0_2.length c0_2, .slice (some ad306) l0_3.length c0_3], .int .i64 (rd x8_1 0), .int .i64 0, .int .i64 a2] rfl (by (try simp only [List.map_toArray, List.map_cons, List.map_nil]); first | done | rfl | (simp only [List.length_drop, List.length_take]; rfl)) ?_; (with_reducible refine (ontimeref19_reaches.calls k1 a0_0 a0_1 _ _ l0_2 _ _ l0_3 (rd x8_1 0) 0 a2 false true _ ?side1 ?side2 ?side3 ?side4 A26.out).mono ?_); (case side1 => repeat (first | exact (Kd.C_below HR0_2.out HB.out) | (with_reducible refine Kd.C_alloc ?_ _) | (with_reducible refine Kd.C_drewN ?_ _) | (with_reducible refine Kd.C_drew ?_))); (case side2 => exact HC0_2.out); (case side3 => repeat (first | exact (Kd.C_below HR0_3.out HB.out) | (with_reducible refine Kd.C_alloc ?_ _) | (with_reducible refine Kd.C_drewN ?_ _) | (with_reducible refine Kd.C_drew ?_))); (case side4 => exact HC0_3.out); rintro e w46 ⟨rfl, hb⟩; refine ⟨_, rfl, ?_⟩; have n0_ := Aside0.mk (Kd.R_below (by (with_reducible repeat (first | apply Kd.R_alloc | apply Kd.R_drewN | apply Kd.R_drew)); exact HO_7.out) hb); have n1_ := Aside0.mk (Kd.Q_below (by (with_reducible repeat (first | apply Kd.Q_alloc | apply Kd.Q_drewN | apply Kd.Q_drew)); exact HO313.out) hb); have n2_ := Aside0.mk (blk_below (g := gb302) (o := .cells #[.string a0_0, .int .i64 a0_1, .slice A0_2 l0_2.length c0_2, .slice (some ad306) l0_3.length c0_3] 36 (0, 0)) (by (with_reducible repeat (first | refine blk_drewN ?_ _ | refine blk_drew ?_ | refine blk_alloc ?_ _)); exact BK302.out) hb); have n3_ := Aside0.mk (below_step (by repeat (first | (with_reducible first | exact HB.out | apply below_alloc | apply pw_below_drewN | apply below_drew1 | refine below_set ?_ GE302.out) | exact HB.out)) hb); clear HO_7; clear HO313; clear BK302; clear HB; have HO_7 := n0_; have HO313 := n1_; have BK302 := n2_; have HB := n3_; clear n0_ n1_ n2_ n3_; (try clear hb); (try clear hb2); (try clear hk); (try clear hi)))
                                    have n0_ := Aside0.mk (Kd.R_drew HO_7.out)
                                    have n1_ := Aside0.mk (Kd.Q_drew HO313.out)
                                    have n2_ := Aside0.mk (blk_drew BK302.out)
                                    have n3_ := Aside0.mk (below_drew1 HB.out)
                                    clear HO_7
                                    clear HO313
                                    clear BK302
                                    clear HB
                                    have HO_7 := n0_
                                    have HO313 := n1_
                                    have BK302 := n2_
                                    have HB := n3_
                                    clear n0_ n1_ n2_ n3_
                                    have p324 : 0 ≤ ((rd x8_1 0) : Int) := of_decide_eq_true (by first | (with_reducible assumption) | assumption)
                                    have q324 : (rd x8_1 0) < (l0_3.length : Int) := of_decide_eq_true (by first | (with_reducible assumption) | assumption)
                                    obtain ⟨ad324, A324_0, c324_0, e324, hx324_0, hx324_1, hx324_2, hx324_3, hx324_4, hl324_0, hi324_0⟩ := at_T79 HR0_3.out (rd x8_1 0) p324 q324
                                    have hw324_4 := hx324_4
                                    have hw324_3 := hx324_3
                                    have hw324_2 := hx324_2
                                    have hw324_1 := hx324_1
                                    have hw324_0 := hx324_0
                                    obtain rfl : ad306 = ad324 := (by injection e324)
                                    replace hx324_0 := (HB.out.cell (World.block_lt_of_cell? w _ hx324_0)).trans hx324_0
                                    replace hx324_1 := (HB.out.cell (World.block_lt_of_cell? w _ hx324_1)).trans hx324_1
                                    replace hx324_2 := (HB.out.cell (World.block_lt_of_cell? w _ hx324_2)).trans hx324_2
                                    replace hx324_3 := (HB.out.cell (World.block_lt_of_cell? w _ hx324_3)).trans hx324_3
                                    replace hx324_4 := (HB.out.cell (World.block_lt_of_cell? w _ hx324_4)).trans hx324_4
                                    have HR324_0 := Aside0.mk hi324_0
                                    have HC324_0 := Aside0.mk hl324_0
                                    clear hi324_0 hl324_0
                                    replace p324 := eq_true p324
                                    replace q324 := eq_true q324
                                    refine start_ (n := 11) (S := fun w' => w'.cell? ⟨gb302, 0, none⟩ = some (.string a0_0) ∧ w'.cell? ⟨gb302, 1, none⟩ = some (.int .i64 a0_1) ∧ w'.cell? ⟨gb302, 2, none⟩ = some (.slice A0_2 l0_2.length c0_2) ∧ w'.cell? ⟨gb302, 3, none⟩ = some (.slice (some ad306) l0_3.length c0_3) ∧ w'.cell? (ad306.add (((rd x8_1 0)).toNat * 5)) = some (.slice A324_0 ((rd_T79 l0_3 (rd x8_1 0)).f0).length c324_0) ∧ w'.cell? ⟨(ad306.add (((rd x8_1 0)).toNat * 5)).block, (ad306.add (((rd x8_1 0)).toNat * 5)).off + 1, none⟩ = some (.int .u8 ((rd_T79 l0_3 (rd x8_1 0)).f1)) ∧ w'.cell? ⟨(ad306.add (((rd x8_1 0)).toNat * 5)).block, (ad306.add (((rd x8_1 0)).toNat * 5)).off + 2, none⟩ = some (.int .i64 ((rd_T79 l0_3 (rd x8_1 0)).f2)) ∧ w'.cell? ⟨(ad306.add (((rd x8_1 0)).toNat * 5)).block, (ad306.add (((rd x8_1 0)).toNat * 5)).off + 3, none⟩ = some (.int .i64 ((rd_T79 l0_3 (rd x8_1 0)).f3)) ∧ w'.cell? ⟨(ad306.add (((rd x8_1 0)).toNat * 5)).block, (ad306.add (((rd x8_1 0)).toNat * 5)).off + 4, none⟩ = some (.int .i64 ((rd_T79 l0_3 (rd x8_1 0)).f4))) (ds := []) #[false, false, false, false, false, false, false, false, false, false, false] (by kernel_rfl) rfl rfl ⟨(blk_cell BK302.out 0).trans rfl, (blk_cell BK302.out 1).trans rfl, (blk_cell BK302.out 2).trans rfl, (blk_cell BK302.out 3).trans rfl, ((HB.out.cell (World.block_lt_of_cell? w _ hw324_0)).trans hw324_0), ((HB.out.cell (World.block_lt_of_cell? w _ hw324_1)).trans hw324_1), ((HB.out.cell (World.block_lt_of_cell? w _ hw324_2)).trans hw324_2), ((HB.out.cell (World.block_lt_of_cell? w _ hw324_3)).trans hw324_3), ((HB.out.cell (World.block_lt_of_cell? w _ hw324_4)).trans hw324_4)⟩ (fun hHeld => ?_); refine with_tabW ontimeref19_Leaves.tab12 ontimeref19_Leaves.bits12 (fun HT_ HW_ => ?_)
                                    generalize w46.drew = w47 at HO_7 HO313 BK302 HB HR324_0 hx324_0 hx324_1 hx324_2 hx324_3 hx324_4 hHeld ⊢
                                    refine pure_ (i := 1) (N := some 47) (v := ?_) (a' := ?_) #[false, true, false, false, false, false, false, false, false, false, false] rfl rfl (any_of HT_.out (by kernel_rfl)) (fun _ _ _ h => h) (Or.inl ⟨by rfl, ?_⟩) ?_ ?_
                                    rotate_left
                                    · intro w'
                                      go_simp
                                      with_reducible rfl
                                    rotate_left
                                    · simp only [Act.put, List.setIfInBounds_toArray, List.set_cons_zero, List.set_cons_succ, i64_w, i32_w]
                                      rfl
                                    refine pure_ (i := 3) (N := some 49) (v := ?_) (a' := ?_) #[false, true, false, true, false, false, false, false, false, false, false] rfl rfl (any_of HT_.out (by kernel_rfl)) (fun _ _ _ h => h) (Or.inl ⟨by rfl, ?_⟩) ?_ ?_
                                    rotate_left
                                    · intro w'
                                      go_simp
                                      with_reducible rfl
                                    rotate_left
                                    · simp only [Act.put, List.setIfInBounds_toArray, List.set_cons_zero, List.set_cons_succ, i64_w, i32_w]
                                      rfl
                                    refine pure_ (i := 5) (N := some 51) (v := ?_) (a' := ?_) #[false, true, false, true, false, true, false, false, false, false, false] rfl rfl (any_of HT_.out (by kernel_rfl)) (fun _ _ _ h => h) (Or.inl ⟨by rfl, ?_⟩) ?_ ?_
                                    rotate_left
                                    · intro w'
                                      go_simp
                                      with_reducible rfl
                                    rotate_left
                                    · simp only [Act.put, List.setIfInBounds_toArray, List.set_cons_zero, List.set_cons_succ, i64_w, i32_w]
                                      rfl
                                    refine take_ (i := 4) (N := some 50) (v := ?_) (a' := ?_) #[false, true, false, true, true, true, false, false, false, false, false] rfl rfl (take_ofW HT_.out HW_.out (by kernel_rfl)) (fun _ _ _ h => h) (Or.inl ⟨by rfl, ?_⟩) hHeld ?_ ?_
                                    rotate_left
                                    · rintro w' ⟨s0, s1, s2, s3, s4, s5, s6, s7, s8⟩
                                      go_simp
                                      with_reducible rfl
                                    rotate_left
                                    · simp only [Act.put, List.setIfInBounds_toArray, List.set_cons_zero, List.set_cons_succ, i64_w, i32_w]
                                      rfl
                                    refine pure_ (i := 6) (N := some 52) (v := ?_) (a' := ?_) #[false, true, false, true, true, true, true, false, false, false, false] rfl rfl (any_of HT_.out (by kernel_rfl)) (fun _ _ _ h => h) (Or.inl ⟨by rfl, ?_⟩) ?_ ?_
                                    rotate_left
                                    · intro w'
                                      go_simp
                                      with_reducible rfl
                                    rotate_left
                                    · simp only [Act.put, List.setIfInBounds_toArray, List.set_cons_zero, List.set_cons_succ, i64_w, i32_w]
                                      rfl
                                    refine take_ (i := 7) (N := some 53) (v := ?_) (a' := ?_) #[false, true, false, true, true, true, true, true, false, false, false] rfl rfl (take_ofW HT_.out HW_.out (by kernel_rfl)) (fun _ _ _ h => h) (Or.inl ⟨by rfl, ?_⟩) hHeld ?_ ?_
                                    rotate_left
                                    · rintro w' ⟨s0, s1, s2, s3, s4, s5, s6, s7, s8⟩
                                      go_simp
                                      with_reducible rfl
                                    rotate_left
                                    · simp only [Act.put, List.setIfInBounds_toArray, List.set_cons_zero, List.set_cons_succ, i64_w, i32_w]
                                      rfl
                                    refine one_ (i := 0) (N := some 46) #[true, true, false, true, true, true, true, true, false, false, false] rfl rfl (one_of HT_.out (by kernel_rfl)) (by decide) (fun K hK => ?_)
                                    refine Kd.R_lit_step (Kd.int .i64) _ 3 ?hg (N := 46) ?hd (xs := ([] : List Int)) (inner := []) (ok := fun _ => True) (okp := fun _ => True) ?hr ?hp (fun _ hk => hk) trivial (Below.refl _ _) (Nat.le_refl _) (by simp) ?_; (case hd => rfl); (case hg => rfl); (case hr => first | (go_simp; done) | (go_simp; rfl)); (case hp => exact (Reps.none _ _))
                                    intro v319 w48 ho49 hb hg_ hnew_
                                    clear hg_ hnew_
                                    (first | rw [← Ny318.out] at ho49 | (simp only [Int.reduceToNat] at ho49; rw [← Ny318.out] at ho49))
                                    have n0_ := Aside0.mk (Kd.R_below (by (with_reducible repeat (first | apply Kd.R_alloc | apply Kd.R_drewN | apply Kd.R_drew)); exact HO_7.out) hb)
                                    have n1_ := Aside0.mk (Kd.Q_elder' (by (with_reducible repeat (first | apply Kd.Q_alloc | apply Kd.Q_drewN | apply Kd.Q_drew)); exact HO313.out) (Kd.R_base ho49) hb)
                                    have n2_ := Aside0.mk (Kd.R_lower (Kd.R_new' ho49 (Kd.Q_lt (by (with_reducible repeat (first | apply Kd.Q_alloc | apply Kd.Q_drewN | apply Kd.Q_drew)); exact HO313.out))) (below_size (by repeat (first | (with_reducible first | exact HB.out | apply below_alloc | apply pw_below_drewN | apply below_drew1 | refine below_set ?_ GE302.out) | exact HB.out))))
                                    have n3_ := Aside0.mk (blk_below (g := gb302) (o := .cells #[.string a0_0, .int .i64 a0_1, .slice A0_2 l0_2.length c0_2, .slice (some ad306) l0_3.length c0_3] 36 (0, 0)) (by (with_reducible repeat (first | refine blk_drewN ?_ _ | refine blk_drew ?_ | refine blk_alloc ?_ _)); exact BK302.out) hb)
                                    have n4_ := Aside0.mk (below_step (by repeat (first | (with_reducible first | exact HB.out | apply below_alloc | apply pw_below_drewN | apply below_drew1 | refine below_set ?_ GE302.out) | exact HB.out)) hb)
                                    clear HO_7
                                    clear HO313
                                    clear BK302
                                    clear HB
                                    have HO_7 := n0_
                                    have HO313 := n1_
                                    have HO320 := n2_
                                    have BK302 := n3_
                                    have HB := n4_
                                    clear n0_ n1_ n2_ n3_ n4_
                                    clear hb ho49
                                    refine hK.out _ _ ⟨(blk_cell BK302.out 0).trans rfl, (blk_cell BK302.out 1).trans rfl, (blk_cell BK302.out 2).trans rfl, (blk_cell BK302.out 3).trans rfl, ((HB.out.cell (World.block_lt_of_cell? w _ hw324_0)).trans hw324_0), ((HB.out.cell (World.block_lt_of_cell? w _ hw324_1)).trans hw324_1), ((HB.out.cell (World.block_lt_of_cell? w _ hw324_2)).trans hw324_2), ((HB.out.cell (World.block_lt_of_cell? w _ hw324_3)).trans hw324_3), ((HB.out.cell (World.block_lt_of_cell? w _ hw324_4)).trans hw324_4)⟩ (fun hHeld => ?_)
                                    clear hK K
                                    refine norm_ (a' := ?_) ?_ ?_
                                    rotate_left
                                    · show Act.put _ (some 46) _ = _
                                      simp only [Act.put, List.setIfInBounds_toArray, List.set_cons_zero, List.set_cons_succ, i64_w, i32_w]
                                      rfl
                                    refine one_ (i := 2) (N := some 48) #[true, true, true, true, true, true, true, true, false, false, false] rfl rfl (one_of HT_.out (by kernel_rfl)) (by decide) (fun K hK => ?_)
                                    refine Kd.R_append_rows_step (Kd.int .i64) (w0 := w) w.heap.size (by rfl) (.tmp 46) (.tmp 47) 39 3 (.int .i64 0) 8 rfl Try.underlying39 info3 rfl (by decide) (by omega) v319 y318 y311 _ _ _ (fun k_ => some k_ ≠ (.slice A41 y311.length c41 : Value).ownBlock) (fun _ => False) rfl rfl ?aO ?aR (fun _ _ h => h) (fun _ h => h.elim) ?aF ?aB ?aS ?aL ?_
                                    (case aR => repeat (first | exact (Kd.Q_reads' HO313.out).2.2 | (with_reducible refine Kd.C_alloc ?_ _) | (with_reducible refine Kd.C_drewN ?_ _) | (with_reducible refine Kd.C_drew ?_)))
                                    (case aB => exact (by repeat (first | (with_reducible first | exact HB.out | apply below_alloc | apply pw_below_drewN | apply below_drew1 | refine below_set ?_ GE302.out) | exact HB.out)))
                                    (case aF => exact (fun k_ hk => Kd.fresh' (Kd.Q_lt (by (with_reducible repeat (first | apply Kd.Q_alloc | apply Kd.Q_drewN | apply Kd.Q_drew)); exact HO313.out)) k_ hk))
                                    (case aO => exact (by (with_reducible repeat (first | apply Kd.R_alloc | apply Kd.R_drewN | apply Kd.R_drew)); exact Kd.R_mono HO320.out (fun _ hk => hk.2)))
                                    (case aS => exact (below_size (by repeat (first | (with_reducible first | exact HB.out | apply below_alloc | apply pw_below_drewN | apply below_drew1 | refine below_set ?_ GE302.out) | exact HB.out))))
                                    (case aL => have := LMc36.out; omega)
                                    intro v322 w50 ho hb hg hat
                                    rw [← Ny321.out] at ho
                                    have n0_ := Aside0.mk (Kd.R_over' (by (with_reducible repeat (first | apply Kd.R_alloc | apply Kd.R_drewN | apply Kd.R_drew)); exact HO_7.out) (Kd.R_typed (by (with_reducible repeat (first | apply Kd.R_alloc | apply Kd.R_drewN | apply Kd.R_drew)); exact HO320.out)) (by decide) hg)
                                    have n1_ := Aside0.mk (Kd.Q_after (ok := (fun _ => True)) (by (with_reducible repeat (first | apply Kd.Q_alloc | apply Kd.Q_drewN | apply Kd.Q_drew)); exact HO313.out) hg hat)
                                    have n2_ := Aside0.mk (blk_grown (g := gb302) (o := .cells #[.string a0_0, .int .i64 a0_1, .slice A0_2 l0_2.length c0_2, .slice (some ad306) l0_3.length c0_3] 36 (0, 0)) (by (with_reducible repeat (first | refine blk_drewN ?_ _ | refine blk_drew ?_ | refine blk_alloc ?_ _)); exact BK302.out) hg (Kd.R_ne HO320.out BK302.out (by decide)))
                                    have n3_ := Aside0.mk (hb)
                                    have n4_ := Aside0.mk (ho)
                                    clear HO_7
                                    clear HO313
                                    clear BK302
                                    clear HB
                                    clear HO320
                                    have HO_7 := n0_
                                    have HO313 := n1_
                                    have BK302 := n2_
                                    have HB := n3_
                                    have HO323 := n4_
                                    clear n0_ n1_ n2_ n3_ n4_
                                    clear ho hb hg hat
                                    refine hK.out _ _ ⟨(blk_cell BK302.out 0).trans rfl, (blk_cell BK302.out 1).trans rfl, (blk_cell BK302.out 2).trans rfl, (blk_cell BK302.out 3).trans rfl, ((HB.out.cell (World.block_lt_of_cell? w _ hw324_0)).trans hw324_0), ((HB.out.cell (World.block_lt_of_cell? w _ hw324_1)).trans hw324_1), ((HB.out.cell (World.block_lt_of_cell? w _ hw324_2)).trans hw324_2), ((HB.out.cell (World.block_lt_of_cell? w _ hw324_3)).trans hw324_3), ((HB.out.cell (World.block_lt_of_cell? w _ hw324_4)).trans hw324_4)⟩ (fun hHeld => ?_)
                                    clear hK K
                                    refine norm_ (a' := ?_) ?_ ?_
                                    rotate_left
                                    · show Act.put _ (some 48) _ = _
                                      simp only [Act.put, List.setIfInBounds_toArray, List.set_cons_zero, List.set_cons_succ, i64_w, i32_w]
                                      rfl
                                    refine one_ (i := 8) (N := some 54) #[true, true, true, true, true, true, true, true, true, false, false] rfl rfl (one_of HT_.out (by kernel_rfl)) (by decide) (fun K hK => ?_)
                                    refine goes_ Try.func39 (by kernel_rfl) rfl #[.agg #[.slice A324_0 ((rd_T79 l0_3 (rd x8_1 0)).f0).length c324_0, .int .u8 ((rd_T79 l0_3 (rd x8_1 0)).f1), .int .i64 ((rd_T79 l0_3 (rd x8_1 0)).f2), .int .i64 ((rd_T79 l0_3 (rd x8_1 0)).f3), .int .i64 ((rd_T79 l0_3 (rd x8_1 0)).f4)]] (by rfl) rfl rfl (by (try simp only [List.map_toArray, List.map_cons, List.map_nil]); first | done | rfl | (simp only [List.length_drop, List.length_take]; rfl)) ?_
                                    with_reducible refine (ontimeref17_Succ.calls k1 _ _ ((rd_T79 l0_3 (rd x8_1 0)).f0) ((rd_T79 l0_3 (rd x8_1 0)).f1) ((rd_T79 l0_3 (rd x8_1 0)).f2) ((rd_T79 l0_3 (rd x8_1 0)).f3) ((rd_T79 l0_3 (rd x8_1 0)).f4) t325 _ ?side1 ?side2 A38.out).mono ?_
                                    (case side1 => repeat (first | exact (Kd.C_below HR324_0.out HB.out) | (with_reducible refine Kd.C_alloc ?_ _) | (with_reducible refine Kd.C_drewN ?_ _) | (with_reducible refine Kd.C_drew ?_)))
                                    (case side2 => exact HC324_0.out)
                                    rintro e w51 ⟨v326, rfl, ho0, hb⟩
                                    refine ⟨_, rfl, ?_⟩
                                    have n0_ := Aside0.mk (Kd.R_below (by (with_reducible repeat (first | apply Kd.R_alloc | apply Kd.R_drewN | apply Kd.R_drew)); exact HO_7.out) hb)
                                    have n1_ := Aside0.mk (Kd.Q_elder' (by (with_reducible repeat (first | apply Kd.Q_alloc | apply Kd.Q_drewN | apply Kd.Q_drew)); exact HO313.out) (Kd.R_base ho0) hb)
                                    have n2_ := Aside0.mk (Kd.R_elder' (by (with_reducible repeat (first | apply Kd.R_alloc | apply Kd.R_drewN | apply Kd.R_drew)); exact HO323.out) (Kd.R_base ho0) hb)
                                    have n3_ := Aside0.mk (Kd.R_lower (Kd.R_new' (Kd.R_new' ho0 (Kd.Q_lt (by (with_reducible repeat (first | apply Kd.Q_alloc | apply Kd.Q_drewN | apply Kd.Q_drew)); exact HO313.out))) (Kd.R_lt (by (with_reducible repeat (first | apply Kd.R_alloc | apply Kd.R_drewN | apply Kd.R_drew)); exact HO323.out))) (below_size (by repeat (first | (with_reducible first | exact HB.out | apply below_alloc | apply pw_below_drewN | apply below_drew1 | refine below_set ?_ GE302.out) | exact HB.out))))
                                    have n4_ := Aside0.mk (blk_below (g := gb302) (o := .cells #[.string a0_0, .int .i64 a0_1, .slice A0_2 l0_2.length c0_2, .slice (some ad306) l0_3.length c0_3] 36 (0, 0)) (by (with_reducible repeat (first | refine blk_drewN ?_ _ | refine blk_drew ?_ | refine blk_alloc ?_ _)); exact BK302.out) hb)
                                    have n5_ := Aside0.mk (below_step (by repeat (first | (with_reducible first | exact HB.out | apply below_alloc | apply pw_below_drewN | apply below_drew1 | refine below_set ?_ GE302.out) | exact HB.out)) hb)
                                    clear HO_7
                                    clear HO313
                                    clear HO323
                                    clear BK302
                                    clear HB
                                    have HO_7 := n0_
                                    have HO313 := n1_
                                    have HO323 := n2_
                                    have HO327 := n3_
                                    have BK302 := n4_
                                    have HB := n5_
                                    clear n0_ n1_ n2_ n3_ n4_ n5_
                                    (try clear hb)
                                    (try clear hb2)
                                    (try clear hk)
                                    (try clear hi)
                                    (try clear ho0)
                                    obtain ⟨Ao53, co53, eo53⟩ := Kd.R_slice HO327.out
                                    (first | subst eo53 | (injection eo53 with f1_ f2_ f3_; have f4_ := f1_.symm; have f5_ := f3_.symm; clear f1_ f2_ f3_; subst f4_; subst f5_))
                                    refine hK.out _ _ ⟨(blk_cell BK302.out 0).trans rfl, (blk_cell BK302.out 1).trans rfl, (blk_cell BK302.out 2).trans rfl, (blk_cell BK302.out 3).trans rfl, ((HB.out.cell (World.block_lt_of_cell? w _ hw324_0)).trans hw324_0), ((HB.out.cell (World.block_lt_of_cell? w _ hw324_1)).trans hw324_1), ((HB.out.cell (World.block_lt_of_cell? w _ hw324_2)).trans hw324_2), ((HB.out.cell (World.block_lt_of_cell? w _ hw324_3)).trans hw324_3), ((HB.out.cell (World.block_lt_of_cell? w _ hw324_4)).trans hw324_4)⟩ (fun hHeld => ?_)
                                    clear hK K
                                    refine norm_ (a' := ?_) ?_ ?_
                                    rotate_left
                                    · show Act.put _ (some 54) _ = _
                                      simp only [Act.put, List.setIfInBounds_toArray, List.set_cons_zero, List.set_cons_succ, i64_w, i32_w]
                                      rfl
                                    refine one_ (i := 9) (N := some 55) #[true, true, true, true, true, true, true, true, true, true, false] rfl rfl (one_of HT_.out (by kernel_rfl)) (by decide) (fun K hK => ?_)
                                    refine Kd.R_append_rows_step (Kd.int .i64) (w0 := w) w.heap.size (by rfl) (.tmp 48) (.tmp 54) 39 3 (.int .i64 0) 8 rfl Try.underlying39 info3 rfl (by decide) (by omega) v322 y321 t325 _ _ _ (fun k_ => some k_ ≠ (.slice A41 y311.length c41 : Value).ownBlock ∧ some k_ ≠ (.slice Ao53 t325.length co53 : Value).ownBlock) (fun _ => False) rfl rfl ?aO ?aR (fun _ _ h => h) (fun _ h => h.elim) ?aF ?aB ?aS ?aL ?_
                                    (case aR => repeat (first | exact (Kd.R_reads' HO327.out).2.2 | (with_reducible refine Kd.C_alloc ?_ _) | (with_reducible refine Kd.C_drewN ?_ _) | (with_reducible refine Kd.C_drew ?_)))
                                    (case aB => exact (by repeat (first | (with_reducible first | exact HB.out | apply below_alloc | apply pw_below_drewN | apply below_drew1 | refine below_set ?_ GE302.out) | exact HB.out)))
                                    (case aF => exact (fun k_ hk => ⟨Kd.fresh' (Kd.Q_lt (by (with_reducible repeat (first | apply Kd.Q_alloc | apply Kd.Q_drewN | apply Kd.Q_drew)); exact HO313.out)) k_ hk, Kd.fresh' (Kd.R_lt (by (with_reducible repeat (first | apply Kd.R_alloc | apply Kd.R_drewN | apply Kd.R_drew)); exact HO327.out)) k_ hk⟩))
                                    (case aO => exact (by (with_reducible repeat (first | apply Kd.R_alloc | apply Kd.R_drewN | apply Kd.R_drew)); exact HO323.out))
                                    (case aS => exact (below_size (by repeat (first | (with_reducible first | exact HB.out | apply below_alloc | apply pw_below_drewN | apply below_drew1 | refine below_set ?_ GE302.out) | exact HB.out))))
                                    (case aL => have := LMc39.out; omega)
                                    intro v329 w52 ho hb hg hat
                                    rw [← Ny328.out] at ho
                                    have n0_ := Aside0.mk (Kd.R_over' (by (with_reducible repeat (first | apply Kd.R_alloc | apply Kd.R_drewN | apply Kd.R_drew)); exact HO_7.out) (Kd.R_typed (by (with_reducible repeat (first | apply Kd.R_alloc | apply Kd.R_drewN | apply Kd.R_drew)); exact HO323.out)) (by decide) hg)
                                    have n1_ := Aside0.mk (Kd.Q_after (ok := (fun k_ => some k_ ≠ (.slice Ao53 t325.length co53 : Value).ownBlock)) (by (with_reducible repeat (first | apply Kd.Q_alloc | apply Kd.Q_drewN | apply Kd.Q_drew)); exact Kd.Q_mono HO313.out (fun _ hk => ⟨hk.2, hk.1.2⟩)) hg hat)
                                    have n2_ := Aside0.mk (blk_grown (g := gb302) (o := .cells #[.string a0_0, .int .i64 a0_1, .slice A0_2 l0_2.length c0_2, .slice (some ad306) l0_3.length c0_3] 36 (0, 0)) (by (with_reducible repeat (first | refine blk_drewN ?_ _ | refine blk_drew ?_ | refine blk_alloc ?_ _)); exact BK302.out) hg (Kd.R_ne HO323.out BK302.out (by decide)))
                                    have n3_ := Aside0.mk (Kd.R_after (ok := (fun k_ => some k_ ≠ (.slice A41 y311.length c41 : Value).ownBlock)) (by (with_reducible repeat (first | apply Kd.R_alloc | apply Kd.R_drewN | apply Kd.R_drew)); exact Kd.R_mono HO327.out (fun _ hk => ⟨hk.1.2, hk.2⟩)) hg hat)
                                    have n4_ := Aside0.mk (hb)
                                    have n5_ := Aside0.mk (ho)
                                    clear HO_7
                                    clear HO313
                                    clear BK302
                                    clear HO327
                                    clear HB
                                    clear HO323
                                    have HO_7 := n0_
                                    have HO313 := n1_
                                    have BK302 := n2_
                                    have HO327 := n3_
                                    have HB := n4_
                                    have HO330 := n5_
                                    clear n0_ n1_ n2_ n3_ n4_ n5_
                                    clear ho hb hg hat
                                    refine hK.out _ _ ⟨(blk_cell BK302.out 0).trans rfl, (blk_cell BK302.out 1).trans rfl, (blk_cell BK302.out 2).trans rfl, (blk_cell BK302.out 3).trans rfl, ((HB.out.cell (World.block_lt_of_cell? w _ hw324_0)).trans hw324_0), ((HB.out.cell (World.block_lt_of_cell? w _ hw324_1)).trans hw324_1), ((HB.out.cell (World.block_lt_of_cell? w _ hw324_2)).trans hw324_2), ((HB.out.cell (World.block_lt_of_cell? w _ hw324_3)).trans hw324_3), ((HB.out.cell (World.block_lt_of_cell? w _ hw324_4)).trans hw324_4)⟩ (fun hHeld => ?_)
                                    clear hK K
                                    refine norm_ (a' := ?_) ?_ ?_
                                    rotate_left
                                    · show Act.put _ (some 55) _ = _
                                      simp only [Act.put, List.setIfInBounds_toArray, List.set_cons_zero, List.set_cons_succ, i64_w, i32_w]
                                      rfl
                                    refine pure_ (i := 10) (N := some 8) (v := ?_) (a' := ?_) #[true, true, true, true, true, true, true, true, true, true, true] rfl rfl (any_of HT_.out (by kernel_rfl)) (fun _ _ _ h => h) (Or.inl ⟨by rfl, ?_⟩) ?_ ?_
                                    rotate_left
                                    · intro w'
                                      go_simp
                                      with_reducible rfl
                                    rotate_left
                                    · simp only [Act.put, List.setIfInBounds_toArray, List.set_cons_zero, List.set_cons_succ, i64_w, i32_w]
                                      rfl
                                    refine done_ (done_of HT_.out (by kernel_rfl)) ?_
                                    try go_wp2
                                    go_roundg k1
                                    case measure => have := HK1.out; omega
                                    case rel => exact ⟨(y315), (y328), H', ⟨by have := HK1.out; omega⟩, ⟨by (with_reducible repeat (first | apply Kd.R_alloc | apply Kd.R_drewN | apply Kd.R_drew)); exact HO_7.out⟩, ⟨Kd.Q_of_R (by (with_reducible repeat (first | apply Kd.R_alloc | apply Kd.R_drewN | apply Kd.R_drew)); exact Kd.R_mono HO330.out (fun _ hk => trivial))⟩, ⟨by (with_reducible repeat (first | refine blk_drewN ?_ _ | refine blk_drew ?_ | refine blk_alloc ?_ _)); exact BK302.out⟩, ⟨by repeat (first | (with_reducible first | exact HB.out | apply below_alloc | apply pw_below_drewN | apply below_drew1 | refine below_set ?_ GE302.out) | exact HB.out)⟩⟩
                                  · rw [if_neg c39] at H
                                    exact absurd H (by simp)
                                · rw [if_neg c37] at H
                                  exact absurd H (by simp)
                              · rw [if_neg c36] at H
                                exact absurd H (by simp)
                            · replace c35 := Bool.eq_false_iff.mpr c35
                              subst c35
                              have H1 : (ontimeref19_Leaves.l0 k1 a2 y315 y311 a0_0 a0_1 l0_2 l0_3) = some r := by rw [if_neg (show ¬ (false = true) by decide)] at H; exact H
                              clear H
                              have H := H1
                              clear H1
                              have H' := Aside0.mk H
                              clear H
                              obtain ⟨Ao54, co54, eo54, _⟩ := Kd.Q_slice HO_8.out
                              subst eo54
                              have p310 : 0 ≤ (0 : Int) := (by omega)
                              have q310 : 0 < (x8_1.length : Int) := of_decide_eq_true (by first | (with_reducible assumption) | assumption)
                              obtain ⟨ad310, e310, hx310_0⟩ := Kd.at_int (Kd.Q_reads' HO_8.out).2.2 0 p310 q310
                              cases e310
                              have qi310 : (0 < x8_1.length) = True := eq_true (by omega)
                              (try rw [show ((0 : Int)).toNat = 0 from rfl] at hx310_0)
                              (try rw [Addr.add_zero'] at hx310_0)
                              replace p310 := eq_true p310
                              replace q310 := eq_true q310
                              have q55 : (1 : Int) ≤ ((x8_1.length : Int) : Int) := of_decide_eq_true (by first | (with_reducible assumption) | assumption)
                              obtain ⟨i055, hi055, _, hsz55, _⟩ := info_parts info3
                              have hcut55 := cut_from (P := Try.prog) 39 3 .i64 Try.underlying39 hi055 1 hsz55 (some ad310) x8_1.length co54 1 (by omega) q55
                              have hr55 := Kd.Q_drop (k := (1 : Int).toNat) HO_8.out (by omega)
                              obtain ⟨A55, hA55⟩ : ∃ A1, A1 = (if co54 = (1 : Int).toNat then (some ad310) else ((some ad310) : Option Addr).map (·.add ((1 : Int).toNat * 1))) := ⟨_, rfl⟩
                              obtain ⟨c55, hc55⟩ : ∃ c1, c1 = co54 - (1 : Int).toNat := ⟨_, rfl⟩
                              have hy55 : y311.length = x8_1.length - (1 : Int).toNat := (by rw [Ny311.out, List.length_drop])
                              rw [← Ny311.out] at hr55
                              rw [← hy55, ← hA55, ← hc55] at hcut55
                              replace hr55 : Kd.Q (Kd.int .i64) 3 wr w.heap.size (fun _ => True) (.slice A55 y311.length c55) y311 := (by rw [hA55, hc55, hy55]; exact hr55)
                              have HE55 : Aside0 ((Value.slice A55 y311.length c55).ownBlock = (.slice (some ad310) x8_1.length co54 : Value).ownBlock) := ⟨by rw [hA55]; split <;> (cases ((some ad310) : Option Addr) <;> rfl)⟩
                              clear hy55 hi055 hsz55 HO_8 hA55 hc55
                              have HO313 := Aside0.mk hr55
                              clear hr55
                              replace q55 := eq_true q55
                              obtain ⟨Ao56, co56, eo56⟩ := Kd.R_slice HO_7.out
                              subst eo56
                              have p314 : 0 ≤ ((rd x8_1 0) : Int) := of_decide_eq_true (by first | (with_reducible assumption) | assumption)
                              have q314 : (rd x8_1 0) < (x7_1.length : Int) := of_decide_eq_true (by first | (with_reducible assumption) | assumption)
                              obtain ⟨ad314, e314, hx314_0⟩ := Kd.at_bool (Kd.R_reads' HO_7.out).2.2 (rd x8_1 0) p314 q314
                              (try rw [← Nbq20.out] at hx314_0)
                              cases e314
                              replace p314 := eq_true p314
                              replace q314 := eq_true q314
                              have p25 : 0 ≤ ((rd x8_1 0) : Int) := of_decide_eq_true (by first | (with_reducible assumption) | assumption)
                              have q25 : ((rd x8_1 0) : Int) < ((x7_1.length : Int) : Int) := of_decide_eq_true (by first | (with_reducible assumption) | assumption)
                              obtain ⟨go25, co25, eo25, gb25, gl25, cl25, HG25⟩ := Kd.R_form HO_7.out (by omega)
                              (first | cases eo25 | (injection eo25 with ea_ en_ ec_; (first | subst ea_ | (injection ea_ with ea_; subst ea_)); subst ec_; clear en_))
                              have GB25 := Aside0.mk gb25
                              have GG25 := Aside0.mk HG25
                              clear gb25 gl25 HG25
                              (first | simp only [add_plain] at hx314_0 | skip)
                              obtain ⟨hx25_0, hf25_0⟩ := Kd.R_celln false HO_7.out ((rd x8_1 0) : Int) p25 q25
                              replace p25 := eq_true p25
                              replace q25 := eq_true q25
                              have HP57 := Kd.R_putg HO_7.out ((rd x8_1 0) : Int) true
                              go_wp2_with (first | ((with_reducible refine gate_store (t := 4) (p := 36) rfl ?_); refine store_event (t := 4) (p := 36) (v := ?vo_w58) (w1 := (wr.setCell ⟨go25, ((rd x8_1 0) : Int).toNat, none⟩ (.bool true))) ?hg ?ho ?hn ?hr ?_; (case ho => rfl); (case hg => rfl); (case hn => rfl); (case hr => first | (go_simp; done) | (go_simp; rfl)); intro w58 hw; have hg : wr.grownBy w58 (some go25) := (by rw [hw]; exact HP57.2); have hp_ : Kd.R Kd.bool 4 w58 w.heap.size (fun _ => True) (.slice (some ⟨go25, 0, none⟩) x7_1.length co56) y315 := (by rw [hw, Ny315.out]; exact HP57.1); clear HP57; have n0_ := Aside0.mk (hp_); have n1_ := Aside0.mk (Kd.Q_over' (v := (.slice (some ⟨go25, 0, none⟩) x7_1.length co56)) (by (with_reducible repeat (first | apply Kd.Q_alloc | apply Kd.Q_drewN | apply Kd.Q_drew)); exact HO313.out) (Kd.R_typed HO_7.out) (by decide) hg); have n2_ := Aside0.mk (blk_grown (g := gb302) (o := .cells #[.string a0_0, .int .i64 a0_1, .slice A0_2 l0_2.length c0_2, .slice (some ad306) l0_3.length c0_3] 36 (0, 0)) (by (with_reducible repeat (first | refine blk_drewN ?_ _ | refine blk_drew ?_ | refine blk_alloc ?_ _)); exact BK302.out) hg (Kd.R_ne HO_7.out BK302.out (by decide))); have n3_ := Aside0.mk ((by rw [hw]; exact below_set (HB.out) GB25.out : Below w.heap.size w w58)); clear HO_7; clear HO313; clear BK302; clear HB; have HO_7 := n0_; have HO313 := n1_; have BK302 := n2_; have HB := n3_; clear n0_ n1_ n2_ n3_; clear hg hw hp_; have hcz59_0 : w58.cell? ⟨gb302, 0, none⟩ = some (.string a0_0) := (blk_cell BK302.out 0).trans rfl; have hcz59_1 : w58.cell? ⟨gb302, 1, none⟩ = some (.int .i64 a0_1) := (blk_cell BK302.out 1).trans rfl; have hcz59_2 : w58.cell? ⟨gb302, 2, none⟩ = some (.slice A0_2 l0_2.length c0_2) := (blk_cell BK302.out 2).trans rfl; have hcz59_3 : w58.cell? ⟨gb302, 3, none⟩ = some (.slice (some ad306) l0_3.length c0_3) := (blk_cell BK302.out 3).trans rfl; have hfz59_0 := blk_frozen BK302.out 0; have hfz59_1 := blk_frozen BK302.out 1; have hfz59_2 := blk_frozen BK302.out 2; have hfz59_3 := blk_frozen BK302.out 3) | ((with_reducible refine gate_callee (f := 69) rfl ?_); refine goesL_ (some 41) rfl rfl Try.func69 (by kernel_rfl) rfl #[.agg #[.string a0_0, .int .i64 a0_1, .slice A0_2 l0_2.length c0_2, .slice (some ad306) l0_3.length c0_3], .int .i64 (rd x8_1 0), .int .i64 0, .int .i64 a2] rfl (by (try simp only [List.map_toArray, List.map_cons, List.map_nil]); first | done | rfl | (simp only [List.length_drop, List.length_take]; rfl)) ?_; (with_reducible refine (ontimeref19_reaches.calls k1 a0_0 a0_1 _ _ l0_2 _ _ l0_3 (rd x8_1 0) 0 a2 false false _ ?side1 ?side2 ?side3 ?side4 A26.out).mono ?_); (case side1 => repeat (first | exact (Kd.C_below HR0_2.out HB.out) | (with_reducible refine Kd.C_alloc ?_ _) | (with_reducible refine Kd.C_drewN ?_ _) | (with_reducible refine Kd.C_drew ?_))); (case side2 => exact HC0_2.out); (case side3 => repeat (first | exact (Kd.C_below HR0_3.out HB.out) | (with_reducible refine Kd.C_alloc ?_ _) | (with_reducible refine Kd.C_drewN ?_ _) | (with_reducible refine Kd.C_drew ?_))); (case side4 => exact HC0_3.out); rintro e w60 ⟨rfl, hb⟩; refine ⟨_, rfl, ?_⟩; have n0_ := Aside0.mk (Kd.R_below (by (with_reducible repeat (first | apply Kd.R_alloc | apply Kd.R_drewN | apply Kd.R_drew)); exact HO_7.out) hb); have n1_ := Aside0.mk (Kd.Q_below (by (with_reducible repeat (first | apply Kd.Q_alloc | apply Kd.Q_drewN | apply Kd.Q_drew)); exact HO313.out) hb); have n2_ := Aside0.mk (blk_below (g := gb302) (o := .cells #[.string a0_0, .int .i64 a0_1, .slice A0_2 l0_2.length c0_2, .slice (some ad306) l0_3.length c0_3] 36 (0, 0)) (by (with_reducible repeat (first | refine blk_drewN ?_ _ | refine blk_drew ?_ | refine blk_alloc ?_ _)); exact BK302.out) hb); have n3_ := Aside0.mk (below_step (by repeat (first | (with_reducible first | exact HB.out | apply below_alloc | apply pw_below_drewN | apply below_drew1 | refine below_set ?_ GE302.out) | exact HB.out)) hb); clear HO_7; clear HO313; clear BK302; clear HB; have HO_7 := n0_; have HO313 := n1_; have BK302 := n2_; have HB := n3_; clear n0_ n1_ n2_ n3_; (try clear hb); (try clear hb2); (try clear hk); (try clear hi)))
                              go_roundg k1
                              case measure => have := HK1.out; omega
                              case rel => exact ⟨(y315), (y311), H', ⟨by have := HK1.out; omega⟩, ⟨by (with_reducible repeat (first | apply Kd.R_alloc | apply Kd.R_drewN | apply Kd.R_drew)); exact HO_7.out⟩, ⟨by (with_reducible repeat (first | apply Kd.Q_alloc | apply Kd.Q_drewN | apply Kd.Q_drew)); exact HO313.out⟩, ⟨by (with_reducible repeat (first | refine blk_drewN ?_ _ | refine blk_drew ?_ | refine blk_alloc ?_ _)); exact BK302.out⟩, ⟨by repeat (first | (with_reducible first | exact HB.out | apply below_alloc | apply pw_below_drewN | apply below_drew1 | refine below_set ?_ GE302.out) | exact HB.out)⟩⟩
                      · rw [if_neg c19] at H
                        exact absurd H (by simp)
                    · rw [if_neg c18] at H
                      exact absurd H (by simp)
                  · rw [if_neg c17] at H
                    exact absurd H (by simp)
                · rw [if_neg c16] at H
                  exact absurd H (by simp)
              · rw [if_neg c15] at H
                have c15b0 : decide (0 < (x8_1.length : Int)) = false := decide_eq_false c15
                have c15b1 : decide (0 < x8_1.length) = false := decide_eq_false (by omega)
                clear c15
                obtain rfl := Option.some.inj H
                obtain ⟨Ao61, co61, eo61, _⟩ := Kd.Q_slice HO_8.out
                subst eo61
                go_wp2
                go_ret
                exact ⟨by first | rfl | (simp [errW_none, errW_some] <;> rfl) | (simp [*, errW_none, errW_some] <;> rfl), by repeat (first | (with_reducible first | exact HB.out | apply below_alloc | apply pw_below_drewN | apply below_drew1 | refine below_set ?_ GE302.out) | exact HB.out)⟩
        · rw [if_neg c7] at H
          exact absurd H (by simp)
      · rw [if_neg c6] at H
        exact absurd H (by simp)
    · rw [if_neg c5] at H
      exact absurd H (by simp)
  · rw [if_neg c4] at H
    exact absurd H (by simp)
def ontimeref19_Live.f (k : Nat) (a0_0 : ByteArray) (a0_1 : Int) (l0_2 : List (S107)) (l0_3 : List (S79)) (a1 : Int) (a2 : Int) (a3 : Int) : Option (Bool) := (ontimeref19_reaches.f k a0_0 a0_1 l0_2 l0_3 a1 a2 a3).bind fun bt332 => (if bt332.1 = true then (some bt332.1) else (if bt332.2 = true then ((ontimeref19_Leaves.f k a0_0 a0_1 l0_2 l0_3 a1 a3).bind fun t334 => (some t334)) else (some bt332.1)))
theorem ontimeref19_Live.mono : ∀ a0 a1 a2 a3 a4 a5 a6 k, LeO (ontimeref19_Live.f k a0 a1 a2 a3 a4 a5 a6) (ontimeref19_Live.f (k + 1) a0 a1 a2 a3 a4 a5 a6) := by
  intro a0 a1 a2 a3 a4 a5 a6 k
  unfold ontimeref19_Live.f
  repeat' first
      | (with_reducible exact ontimeref19_Leaves.mono _ _ _ _ _ _ _)
      | (with_reducible exact ontimeref19_reaches.mono _ _ _ _ _ _ _ _)
      | (with_reducible exact LeO.refl _)
      | (with_reducible exact LeO.none _)
      | (with_reducible refine LeO.ite ?_ ?_)
      | (with_reducible refine LeO.bind ?_ (fun _ => ?_))
      | exact ontimeref19_Leaves.mono _ _ _ _ _ _ _
      | exact ontimeref19_reaches.mono _ _ _ _ _ _ _ _
      | exact LeO.none _
      | refine LeO.ite ?_ ?_
      | refine LeO.bind ?_ (fun _ => ?_)
set_option maxHeartbeats 8000000 in
set_option maxRecDepth 100000 in
theorem ontimeref19_Live.calls (k : Nat) (a0_0 : ByteArray) (a0_1 : Int) (A0_2 : Option Addr) (c0_2 : Nat) (l0_2 : List (S107)) (A0_3 : Option Addr) (c0_3 : Nat) (l0_3 : List (S79)) (a1 : Int) (a2 : Int) (a3 : Int) (r : Bool) (w : World) (hr0_2 : Kd.C k107 w A0_2 l0_2.length l0_2) (hc0_2 : l0_2.length ≤ c0_2) (hr0_3 : Kd.C k79 w A0_3 l0_3.length l0_3) (hc0_3 : l0_3.length ≤ c0_3) (h : ontimeref19_Live.f k a0_0 a0_1 l0_2 l0_3 a1 a2 a3 = some r) :
    Calls Try.prog 46 #[.agg #[.string a0_0, .int .i64 a0_1, .slice A0_2 l0_2.length c0_2, .slice A0_3 l0_3.length c0_3], .int .i64 a1, .int .i64 a2, .int .i64 a3] w fun e w' => e = .returned (.bool r) ∧ Below w.heap.size w w' := by
  have hu36 := Try.underlying36
  have HR0_2 := Aside0.mk hr0_2
  have HC0_2 := Aside0.mk hc0_2
  clear hr0_2 hc0_2
  have HR0_3 := Aside0.mk hr0_3
  have HC0_3 := Aside0.mk hc0_3
  clear hr0_3 hc0_3
  have HB := Aside0.mk (Below.refl w.heap.size w)
  have H : ((ontimeref19_reaches.f k a0_0 a0_1 l0_2 l0_3 a1 a2 a3).bind fun bt332 => (if bt332.1 = true then (some bt332.1) else (if bt332.2 = true then ((ontimeref19_Leaves.f k a0_0 a0_1 l0_2 l0_3 a1 a3).bind fun t334 => (some t334)) else (some bt332.1)))) = some r := h
  clear h
  replace H := Option.bind_eq_some_iff.mp H
  obtain ⟨⟨t332, t333⟩, A50, H⟩ := H
  replace H : (if t332 = true then (some t332) else (if t333 = true then ((ontimeref19_Leaves.f k a0_0 a0_1 l0_2 l0_3 a1 a3).bind fun t334 => (some t334)) else (some t332))) = some r := H
  have A5 := Aside0.mk A50
  clear A50
  by_cases c6 : t332 = true
  · subst c6
    have H1 : (some true) = some r := by rw [if_pos rfl] at H; exact H
    clear H
    have H := H1
    clear H1
    obtain rfl := Option.some.inj H
    go_enter Try.func46, Try.ntmps46
    go_wp2_with (first | ((with_reducible refine gate_dst (N := 4) rfl ?_); refine box_event ?hg (N := 4) ?hd (cs := #[.string a0_0, .int .i64 a0_1, .slice A0_2 l0_2.length c0_2, .slice A0_3 l0_3.length c0_3]) (t := 36) ?hr ?_; (case hd => rfl); (case hg => rfl); (case hr => first | (go_simp; done) | (go_simp; rfl)); intro gb331 hg w7 hbox hb; have n0_ := Aside0.mk (below_step (by repeat (first | (with_reducible first | exact HB.out | apply below_alloc | apply pw_below_drewN | apply below_drew1) | exact HB.out)) hb); have n1_ := Aside0.mk (hbox); have n2_ := Aside0.mk ((by rw [hg]; exact (below_size (by repeat (first | (with_reducible first | exact HB.out | apply below_alloc | apply pw_below_drewN | apply below_drew1) | exact HB.out))) : w.heap.size ≤ gb331)); have n3_ := Aside0.mk ((by rw [hg]; exact (below_size (by repeat (first | (with_reducible first | exact HB.out | apply below_alloc | apply pw_below_drewN | apply below_drew1) | exact HB.out))) : w.heap.size ≤ gb331)); clear HB; have HB := n0_; have BK331 := n1_; have GW331 := n2_; have GE331 := n3_; clear n0_ n1_ n2_ n3_; clear hb hbox hg; have hcz8_0 : w7.cell? ⟨gb331, 0, none⟩ = some (.string a0_0) := (blk_cell BK331.out 0).trans rfl; have hcz8_1 : w7.cell? ⟨gb331, 1, none⟩ = some (.int .i64 a0_1) := (blk_cell BK331.out 1).trans rfl; have hcz8_2 : w7.cell? ⟨gb331, 2, none⟩ = some (.slice A0_2 l0_2.length c0_2) := (blk_cell BK331.out 2).trans rfl; have hcz8_3 : w7.cell? ⟨gb331, 3, none⟩ = some (.slice A0_3 l0_3.length c0_3) := (blk_cell BK331.out 3).trans rfl; have hfz8_0 := blk_frozen BK331.out 0; have hfz8_1 := blk_frozen BK331.out 1; have hfz8_2 := blk_frozen BK331.out 2; have hfz8_3 := blk_frozen BK331.out 3) | ((with_reducible refine gate_callee (f := 69) rfl ?_); refine goesL_ (some 16) rfl rfl Try.func69 (by kernel_rfl) rfl #[.agg #[.string a0_0, .int .i64 a0_1, .slice A0_2 l0_2.length c0_2, .slice A0_3 l0_3.length c0_3], .int .i64 a1, .int .i64 a2, .int .i64 a3] rfl (by (try simp only [List.map_toArray, List.map_cons, List.map_nil]); first | done | rfl | (simp only [List.length_drop, List.length_take]; rfl)) ?_; (with_reducible refine (ontimeref19_reaches.calls k a0_0 a0_1 _ _ l0_2 _ _ l0_3 a1 a2 a3 true t333 _ ?side1 ?side2 ?side3 ?side4 A5.out).mono ?_); (case side1 => repeat (first | exact (Kd.C_below HR0_2.out HB.out) | (with_reducible refine Kd.C_alloc ?_ _) | (with_reducible refine Kd.C_drewN ?_ _) | (with_reducible refine Kd.C_drew ?_))); (case side2 => exact HC0_2.out); (case side3 => repeat (first | exact (Kd.C_below HR0_3.out HB.out) | (with_reducible refine Kd.C_alloc ?_ _) | (with_reducible refine Kd.C_drewN ?_ _) | (with_reducible refine Kd.C_drew ?_))); (case side4 => exact HC0_3.out); rintro e w9 ⟨rfl, hb⟩; refine ⟨_, rfl, ?_⟩; have n0_ := Aside0.mk (blk_below (g := gb331) (o := .cells #[.string a0_0, .int .i64 a0_1, .slice A0_2 l0_2.length c0_2, .slice A0_3 l0_3.length c0_3] 36 (0, 0)) (by (with_reducible repeat (first | refine blk_drewN ?_ _ | refine blk_drew ?_ | refine blk_alloc ?_ _)); exact BK331.out) hb); have n1_ := Aside0.mk (below_step (by repeat (first | (with_reducible first | exact HB.out | apply below_alloc | apply pw_below_drewN | apply below_drew1 | refine below_set ?_ GE331.out) | exact HB.out)) hb); clear BK331; clear HB; have BK331 := n0_; have HB := n1_; clear n0_ n1_; (try clear hb); (try clear hb2); (try clear hk); (try clear hi)))
    go_ret
    exact ⟨by first | rfl | (simp [errW_none, errW_some] <;> rfl) | (simp [*, errW_none, errW_some] <;> rfl), by repeat (first | (with_reducible first | exact HB.out | apply below_alloc | apply pw_below_drewN | apply below_drew1 | refine below_set ?_ GE331.out) | exact HB.out)⟩
  · replace c6 := Bool.eq_false_iff.mpr c6
    subst c6
    have H1 : (if t333 = true then ((ontimeref19_Leaves.f k a0_0 a0_1 l0_2 l0_3 a1 a3).bind fun t334 => (some t334)) else (some false)) = some r := by rw [if_neg (show ¬ (false = true) by decide)] at H; exact H
    clear H
    have H := H1
    clear H1
    by_cases c10 : t333 = true
    · subst c10
      have H1 : ((ontimeref19_Leaves.f k a0_0 a0_1 l0_2 l0_3 a1 a3).bind fun t334 => (some t334)) = some r := by rw [if_pos rfl] at H; exact H
      clear H
      have H := H1
      clear H1
      replace H := Option.bind_eq_some_iff.mp H
      obtain ⟨t334, A110, H⟩ := H
      replace H : (some t334) = some r := H
      have A11 := Aside0.mk A110
      clear A110
      obtain rfl := Option.some.inj H
      go_enter Try.func46, Try.ntmps46
      go_wp2_with (first | ((with_reducible refine gate_dst (N := 4) rfl ?_); refine box_event ?hg (N := 4) ?hd (cs := #[.string a0_0, .int .i64 a0_1, .slice A0_2 l0_2.length c0_2, .slice A0_3 l0_3.length c0_3]) (t := 36) ?hr ?_; (case hd => rfl); (case hg => rfl); (case hr => first | (go_simp; done) | (go_simp; rfl)); intro gb331 hg w12 hbox hb; have n0_ := Aside0.mk (below_step (by repeat (first | (with_reducible first | exact HB.out | apply below_alloc | apply pw_below_drewN | apply below_drew1) | exact HB.out)) hb); have n1_ := Aside0.mk (hbox); have n2_ := Aside0.mk ((by rw [hg]; exact (below_size (by repeat (first | (with_reducible first | exact HB.out | apply below_alloc | apply pw_below_drewN | apply below_drew1) | exact HB.out))) : w.heap.size ≤ gb331)); have n3_ := Aside0.mk ((by rw [hg]; exact (below_size (by repeat (first | (with_reducible first | exact HB.out | apply below_alloc | apply pw_below_drewN | apply below_drew1) | exact HB.out))) : w.heap.size ≤ gb331)); clear HB; have HB := n0_; have BK331 := n1_; have GW331 := n2_; have GE331 := n3_; clear n0_ n1_ n2_ n3_; clear hb hbox hg; have hcz13_0 : w12.cell? ⟨gb331, 0, none⟩ = some (.string a0_0) := (blk_cell BK331.out 0).trans rfl; have hcz13_1 : w12.cell? ⟨gb331, 1, none⟩ = some (.int .i64 a0_1) := (blk_cell BK331.out 1).trans rfl; have hcz13_2 : w12.cell? ⟨gb331, 2, none⟩ = some (.slice A0_2 l0_2.length c0_2) := (blk_cell BK331.out 2).trans rfl; have hcz13_3 : w12.cell? ⟨gb331, 3, none⟩ = some (.slice A0_3 l0_3.length c0_3) := (blk_cell BK331.out 3).trans rfl; have hfz13_0 := blk_frozen BK331.out 0; have hfz13_1 := blk_frozen BK331.out 1; have hfz13_2 := blk_frozen BK331.out 2; have hfz13_3 := blk_frozen BK331.out 3) | ((with_reducible refine gate_callee (f := 69) rfl ?_); refine goesL_ (some 16) rfl rfl Try.func69 (by kernel_rfl) rfl #[.agg #[.string a0_0, .int .i64 a0_1, .slice A0_2 l0_2.length c0_2, .slice A0_3 l0_3.length c0_3], .int .i64 a1, .int .i64 a2, .int .i64 a3] rfl (by (try simp only [List.map_toArray, List.map_cons, List.map_nil]); first | done | rfl | (simp only [List.length_drop, List.length_take]; rfl)) ?_; (with_reducible refine (ontimeref19_reaches.calls k a0_0 a0_1 _ _ l0_2 _ _ l0_3 a1 a2 a3 false true _ ?side1 ?side2 ?side3 ?side4 A5.out).mono ?_); (case side1 => repeat (first | exact (Kd.C_below HR0_2.out HB.out) | (with_reducible refine Kd.C_alloc ?_ _) | (with_reducible refine Kd.C_drewN ?_ _) | (with_reducible refine Kd.C_drew ?_))); (case side2 => exact HC0_2.out); (case side3 => repeat (first | exact (Kd.C_below HR0_3.out HB.out) | (with_reducible refine Kd.C_alloc ?_ _) | (with_reducible refine Kd.C_drewN ?_ _) | (with_reducible refine Kd.C_drew ?_))); (case side4 => exact HC0_3.out); rintro e w14 ⟨rfl, hb⟩; refine ⟨_, rfl, ?_⟩; have n0_ := Aside0.mk (blk_below (g := gb331) (o := .cells #[.string a0_0, .int .i64 a0_1, .slice A0_2 l0_2.length c0_2, .slice A0_3 l0_3.length c0_3] 36 (0, 0)) (by (with_reducible repeat (first | refine blk_drewN ?_ _ | refine blk_drew ?_ | refine blk_alloc ?_ _)); exact BK331.out) hb); have n1_ := Aside0.mk (below_step (by repeat (first | (with_reducible first | exact HB.out | apply below_alloc | apply pw_below_drewN | apply below_drew1 | refine below_set ?_ GE331.out) | exact HB.out)) hb); clear BK331; clear HB; have BK331 := n0_; have HB := n1_; clear n0_ n1_; (try clear hb); (try clear hb2); (try clear hk); (try clear hi); have hcz15_0 : w14.cell? ⟨gb331, 0, none⟩ = some (.string a0_0) := (blk_cell BK331.out 0).trans rfl; have hcz15_1 : w14.cell? ⟨gb331, 1, none⟩ = some (.int .i64 a0_1) := (blk_cell BK331.out 1).trans rfl; have hcz15_2 : w14.cell? ⟨gb331, 2, none⟩ = some (.slice A0_2 l0_2.length c0_2) := (blk_cell BK331.out 2).trans rfl; have hcz15_3 : w14.cell? ⟨gb331, 3, none⟩ = some (.slice A0_3 l0_3.length c0_3) := (blk_cell BK331.out 3).trans rfl; have hfz15_0 := blk_frozen BK331.out 0; have hfz15_1 := blk_frozen BK331.out 1; have hfz15_2 := blk_frozen BK331.out 2; have hfz15_3 := blk_frozen BK331.out 3) | ((with_reducible refine gate_callee (f := 45) rfl ?_); refine goesL_ (some 28) rfl rfl Try.func45 (by kernel_rfl) rfl #[.agg #[.string a0_0, .int .i64 a0_1, .slice A0_2 l0_2.length c0_2, .slice A0_3 l0_3.length c0_3], .int .i64 a1, .int .i64 a3] rfl (by (try simp only [List.map_toArray, List.map_cons, List.map_nil]); first | done | rfl | (simp only [List.length_drop, List.length_take]; rfl)) ?_; (with_reducible refine (ontimeref19_Leaves.calls k a0_0 a0_1 _ _ l0_2 _ _ l0_3 a1 a3 t334 _ ?side1 ?side2 ?side3 ?side4 A11.out).mono ?_); (case side1 => repeat (first | exact (Kd.C_below HR0_2.out HB.out) | (with_reducible refine Kd.C_alloc ?_ _) | (with_reducible refine Kd.C_drewN ?_ _) | (with_reducible refine Kd.C_drew ?_))); (case side2 => exact HC0_2.out); (case side3 => repeat (first | exact (Kd.C_below HR0_3.out HB.out) | (with_reducible refine Kd.C_alloc ?_ _) | (with_reducible refine Kd.C_drewN ?_ _) | (with_reducible refine Kd.C_drew ?_))); (case side4 => exact HC0_3.out); rintro e w16 ⟨rfl, hb⟩; refine ⟨_, rfl, ?_⟩; have n0_ := Aside0.mk (blk_below (g := gb331) (o := .cells #[.string a0_0, .int .i64 a0_1, .slice A0_2 l0_2.length c0_2, .slice A0_3 l0_3.length c0_3] 36 (0, 0)) (by (with_reducible repeat (first | refine blk_drewN ?_ _ | refine blk_drew ?_ | refine blk_alloc ?_ _)); exact BK331.out) hb); have n1_ := Aside0.mk (below_step (by repeat (first | (with_reducible first | exact HB.out | apply below_alloc | apply pw_below_drewN | apply below_drew1 | refine below_set ?_ GE331.out) | exact HB.out)) hb); clear BK331; clear HB; have BK331 := n0_; have HB := n1_; clear n0_ n1_; (try clear hb); (try clear hb2); (try clear hk); (try clear hi)))
      go_ret
      exact ⟨by first | rfl | (simp [errW_none, errW_some] <;> rfl) | (simp [*, errW_none, errW_some] <;> rfl), by repeat (first | (with_reducible first | exact HB.out | apply below_alloc | apply pw_below_drewN | apply below_drew1 | refine below_set ?_ GE331.out) | exact HB.out)⟩
    · replace c10 := Bool.eq_false_iff.mpr c10
      subst c10
      have H1 : (some false) = some r := by rw [if_neg (show ¬ (false = true) by decide)] at H; exact H
      clear H
      have H := H1
      clear H1
      obtain rfl := Option.some.inj H
      go_enter Try.func46, Try.ntmps46
      go_wp2_with (first | ((with_reducible refine gate_dst (N := 4) rfl ?_); refine box_event ?hg (N := 4) ?hd (cs := #[.string a0_0, .int .i64 a0_1, .slice A0_2 l0_2.length c0_2, .slice A0_3 l0_3.length c0_3]) (t := 36) ?hr ?_; (case hd => rfl); (case hg => rfl); (case hr => first | (go_simp; done) | (go_simp; rfl)); intro gb331 hg w17 hbox hb; have n0_ := Aside0.mk (below_step (by repeat (first | (with_reducible first | exact HB.out | apply below_alloc | apply pw_below_drewN | apply below_drew1) | exact HB.out)) hb); have n1_ := Aside0.mk (hbox); have n2_ := Aside0.mk ((by rw [hg]; exact (below_size (by repeat (first | (with_reducible first | exact HB.out | apply below_alloc | apply pw_below_drewN | apply below_drew1) | exact HB.out))) : w.heap.size ≤ gb331)); have n3_ := Aside0.mk ((by rw [hg]; exact (below_size (by repeat (first | (with_reducible first | exact HB.out | apply below_alloc | apply pw_below_drewN | apply below_drew1) | exact HB.out))) : w.heap.size ≤ gb331)); clear HB; have HB := n0_; have BK331 := n1_; have GW331 := n2_; have GE331 := n3_; clear n0_ n1_ n2_ n3_; clear hb hbox hg; have hcz18_0 : w17.cell? ⟨gb331, 0, none⟩ = some (.string a0_0) := (blk_cell BK331.out 0).trans rfl; have hcz18_1 : w17.cell? ⟨gb331, 1, none⟩ = some (.int .i64 a0_1) := (blk_cell BK331.out 1).trans rfl; have hcz18_2 : w17.cell? ⟨gb331, 2, none⟩ = some (.slice A0_2 l0_2.length c0_2) := (blk_cell BK331.out 2).trans rfl; have hcz18_3 : w17.cell? ⟨gb331, 3, none⟩ = some (.slice A0_3 l0_3.length c0_3) := (blk_cell BK331.out 3).trans rfl; have hfz18_0 := blk_frozen BK331.out 0; have hfz18_1 := blk_frozen BK331.out 1; have hfz18_2 := blk_frozen BK331.out 2; have hfz18_3 := blk_frozen BK331.out 3) | ((with_reducible refine gate_callee (f := 69) rfl ?_); refine goesL_ (some 16) rfl rfl Try.func69 (by kernel_rfl) rfl #[.agg #[.string a0_0, .int .i64 a0_1, .slice A0_2 l0_2.length c0_2, .slice A0_3 l0_3.length c0_3], .int .i64 a1, .int .i64 a2, .int .i64 a3] rfl (by (try simp only [List.map_toArray, List.map_cons, List.map_nil]); first | done | rfl | (simp only [List.length_drop, List.length_take]; rfl)) ?_; (with_reducible refine (ontimeref19_reaches.calls k a0_0 a0_1 _ _ l0_2 _ _ l0_3 a1 a2 a3 false false _ ?side1 ?side2 ?side3 ?side4 A5.out).mono ?_); (case side1 => repeat (first | exact (Kd.C_below HR0_2.out HB.out) | (with_reducible refine Kd.C_alloc ?_ _) | (with_reducible refine Kd.C_drewN ?_ _) | (with_reducible refine Kd.C_drew ?_))); (case side2 => exact HC0_2.out); (case side3 => repeat (first | exact (Kd.C_below HR0_3.out HB.out) | (with_reducible refine Kd.C_alloc ?_ _) | (with_reducible refine Kd.C_drewN ?_ _) | (with_reducible refine Kd.C_drew ?_))); (case side4 => exact HC0_3.out); rintro e w19 ⟨rfl, hb⟩; refine ⟨_, rfl, ?_⟩; have n0_ := Aside0.mk (blk_below (g := gb331) (o := .cells #[.string a0_0, .int .i64 a0_1, .slice A0_2 l0_2.length c0_2, .slice A0_3 l0_3.length c0_3] 36 (0, 0)) (by (with_reducible repeat (first | refine blk_drewN ?_ _ | refine blk_drew ?_ | refine blk_alloc ?_ _)); exact BK331.out) hb); have n1_ := Aside0.mk (below_step (by repeat (first | (with_reducible first | exact HB.out | apply below_alloc | apply pw_below_drewN | apply below_drew1 | refine below_set ?_ GE331.out) | exact HB.out)) hb); clear BK331; clear HB; have BK331 := n0_; have HB := n1_; clear n0_ n1_; (try clear hb); (try clear hb2); (try clear hk); (try clear hi)))
      go_ret
      exact ⟨by first | rfl | (simp [errW_none, errW_some] <;> rfl) | (simp [*, errW_none, errW_some] <;> rfl), by repeat (first | (with_reducible first | exact HB.out | apply below_alloc | apply pw_below_drewN | apply below_drew1 | refine below_set ?_ GE331.out) | exact HB.out)⟩
end Go.Proofs.Ythgodpmahdnnjaa.H
end
section
namespace Go.Proofs.Ythgodpmahdnnjaa.H
open Go.RowKit Go.Proofs.YthgodpmahdnnjaaW.PrintWords Go.Proofs.YthgodpmahdnnjaaW.PrintLast Go.Proofs.YthgodpmahdnnjaaW.PrintMore
set_option linter.unusedVariables false
set_option linter.unusedSimpArgs false
def ontimeref19_At.l0 : Nat → Int → Int → List Int → Int → ByteArray → Int → List (S107) → List (S79) → Option (List Int)
  | 0, _, _, _, _, _, _, _, _ => none
  | k + 1, x1, x2, x7, x8, x336000, x336001, x336002, x336003 => if x8 < x336001 then (if 0 ≤ x1 then (if x1 < (x336003.length : Int) then (if x2 > (((rd_T79 x336003 x1).f0).length : Int) then ((ontimeref19_Leaves.f k x336000 x336001 x336002 x336003 x1 x8).bind fun t337 => (if t337 = true then (if x7.length < 17592186044416 then (ontimeref19_At.l0 k x1 x2 (x7 ++ [x8]) (wrap64 (x8 + 1)) x336000 x336001 x336002 x336003) else (none)) else (if x2 ≤ (((rd_T79 x336003 x1).f0).length : Int) then ((ontimeref19_Live.f k x336000 x336001 x336002 x336003 x1 x2 x8).bind fun t342 => (if t342 = true then (if x7.length < 17592186044416 then (ontimeref19_At.l0 k x1 x2 (x7 ++ [x8]) (wrap64 (x8 + 1)) x336000 x336001 x336002 x336003) else (none)) else (ontimeref19_At.l0 k x1 x2 x7 (wrap64 (x8 + 1)) x336000 x336001 x336002 x336003))) else (ontimeref19_At.l0 k x1 x2 x7 (wrap64 (x8 + 1)) x336000 x336001 x336002 x336003)))) else (if x2 ≤ (((rd_T79 x336003 x1).f0).length : Int) then ((ontimeref19_Live.f k x336000 x336001 x336002 x336003 x1 x2 x8).bind fun t347 => (if t347 = true then (if x7.length < 17592186044416 then (ontimeref19_At.l0 k x1 x2 (x7 ++ [x8]) (wrap64 (x8 + 1)) x336000 x336001 x336002 x336003) else (none)) else (ontimeref19_At.l0 k x1 x2 x7 (wrap64 (x8 + 1)) x336000 x336001 x336002 x336003))) else (ontimeref19_At.l0 k x1 x2 x7 (wrap64 (x8 + 1)) x336000 x336001 x336002 x336003))) else (none)) else (none)) else (some x7)
def ontimeref19_At.f (k : Nat) (a0_0 : ByteArray) (a0_1 : Int) (l0_2 : List (S107)) (l0_3 : List (S79)) (a1 : Int) (a2 : Int) : Option (List Int) := ontimeref19_At.l0 k a1 a2 ([] : List Int) 0 a0_0 a0_1 l0_2 l0_3
theorem ontimeref19_At.mono_l : ∀ k, (∀ y0 y1 y2 y3 y4 y5 y6 y7, LeO (ontimeref19_At.l0 k y0 y1 y2 y3 y4 y5 y6 y7) (ontimeref19_At.l0 (k + 1) y0 y1 y2 y3 y4 y5 y6 y7))
  | 0 => fun _ _ _ _ _ _ _ _ r h => by simp [ontimeref19_At.l0] at h
  | k + 1 => by
    have ih0 := ontimeref19_At.mono_l k
    · intro y0 y1 y2 y3 y4 y5 y6 y7
      unfold ontimeref19_At.l0
      repeat' first
      | (with_reducible exact ih0 _ _ _ _ _ _ _ _)
      | (with_reducible exact ontimeref19_Leaves.mono _ _ _ _ _ _ _)
      | (with_reducible exact ontimeref19_Live.mono _ _ _ _ _ _ _ _)
      | (with_reducible exact LeO.refl _)
      | (with_reducible exact LeO.none _)
      | (with_reducible refine LeO.ite ?_ ?_)
      | (with_reducible refine LeO.bind ?_ (fun _ => ?_))
      | exact ih0 _ _ _ _ _ _ _ _
      | exact ontimeref19_Leaves.mono _ _ _ _ _ _ _
      | exact ontimeref19_Live.mono _ _ _ _ _ _ _ _
      | exact LeO.none _
      | refine LeO.ite ?_ ?_
      | refine LeO.bind ?_ (fun _ => ?_)
theorem ontimeref19_At.mono : ∀ a0 a1 a2 a3 a4 a5 k, LeO (ontimeref19_At.f k a0 a1 a2 a3 a4 a5) (ontimeref19_At.f (k + 1) a0 a1 a2 a3 a4 a5) := by
  intro a0 a1 a2 a3 a4 a5 k
  have ih0 := ontimeref19_At.mono_l k
  unfold ontimeref19_At.f
  repeat' first
      | (with_reducible exact ih0 _ _ _ _ _ _ _ _)
      | (with_reducible exact ontimeref19_Leaves.mono _ _ _ _ _ _ _)
      | (with_reducible exact ontimeref19_Live.mono _ _ _ _ _ _ _ _)
      | (with_reducible exact LeO.refl _)
      | (with_reducible exact LeO.none _)
      | (with_reducible refine LeO.ite ?_ ?_)
      | (with_reducible refine LeO.bind ?_ (fun _ => ?_))
      | exact ih0 _ _ _ _ _ _ _ _
      | exact ontimeref19_Leaves.mono _ _ _ _ _ _ _
      | exact ontimeref19_Live.mono _ _ _ _ _ _ _ _
      | exact LeO.none _
      | refine LeO.ite ?_ ?_
      | refine LeO.bind ?_ (fun _ => ?_)
set_option maxHeartbeats 8000000 in
set_option maxRecDepth 100000 in
theorem ontimeref19_At.calls (k : Nat) (a0_0 : ByteArray) (a0_1 : Int) (A0_2 : Option Addr) (c0_2 : Nat) (l0_2 : List (S107)) (A0_3 : Option Addr) (c0_3 : Nat) (l0_3 : List (S79)) (a1 : Int) (a2 : Int) (r : List Int) (w : World) (hr0_2 : Kd.C k107 w A0_2 l0_2.length l0_2) (hc0_2 : l0_2.length ≤ c0_2) (hr0_3 : Kd.C k79 w A0_3 l0_3.length l0_3) (hc0_3 : l0_3.length ≤ c0_3) (h : ontimeref19_At.f k a0_0 a0_1 l0_2 l0_3 a1 a2 = some r) :
    Calls Try.prog 15 #[.agg #[.string a0_0, .int .i64 a0_1, .slice A0_2 l0_2.length c0_2, .slice A0_3 l0_3.length c0_3], .int .i64 a1, .int .i64 a2] w fun e w' => ∃ v0_ : Value, e = .returned (v0_) ∧ Kd.R (Kd.int .i64) 3 w' w.heap.size (fun _ => True) v0_ r ∧ Below w.heap.size w w' := by
  have hu36 := Try.underlying36
  have HR0_2 := Aside0.mk hr0_2
  have HC0_2 := Aside0.mk hc0_2
  clear hr0_2 hc0_2
  have HR0_3 := Aside0.mk hr0_3
  have HC0_3 := Aside0.mk hc0_3
  clear hr0_3 hc0_3
  have HB := Aside0.mk (Below.refl w.heap.size w)
  have H : (ontimeref19_At.l0 k a1 a2 ([] : List Int) 0 a0_0 a0_1 l0_2 l0_3) = some r := h
  clear h
  have H' := Aside0.mk H
  clear H
  go_enter Try.func15, Try.ntmps15
  go_wp2_with (first | ((with_reducible refine gate_dst (N := 3) rfl ?_); (try (refine gate_guard (by rfl) ?_; dsimp only)); refine box_event ?hg (N := 3) ?hd (cs := #[.string a0_0, .int .i64 a0_1, .slice A0_2 l0_2.length c0_2, .slice A0_3 l0_3.length c0_3]) (t := 36) ?hr ?_; (case hd => rfl); (case hg => rfl); (case hr => first | (go_simp; done) | (go_simp; rfl)); intro gb335 hg w4 hbox hb; have n0_ := Aside0.mk (below_step (by repeat (first | (with_reducible first | exact HB.out | apply below_alloc | apply pw_below_drewN | apply below_drew1) | exact HB.out)) hb); have n1_ := Aside0.mk (hbox); have n2_ := Aside0.mk ((by rw [hg]; exact (below_size (by repeat (first | (with_reducible first | exact HB.out | apply below_alloc | apply pw_below_drewN | apply below_drew1) | exact HB.out))) : w.heap.size ≤ gb335)); have n3_ := Aside0.mk ((by rw [hg]; exact (below_size (by repeat (first | (with_reducible first | exact HB.out | apply below_alloc | apply pw_below_drewN | apply below_drew1) | exact HB.out))) : w.heap.size ≤ gb335)); clear HB; have HB := n0_; have BK335 := n1_; have GW335 := n2_; have GE335 := n3_; clear n0_ n1_ n2_ n3_; clear hb hbox hg))
  go_loopg [7, 8] k (fun kq v7 v8 w' => ∃ (x7_1 : List Int) (x8_1 : Int), v8 = .int .i64 x8_1 ∧ Aside0 (ontimeref19_At.l0 kq a1 a2 x7_1 x8_1 a0_0 a0_1 l0_2 l0_3 = some r) ∧ Aside0 (kq ≤ k) ∧ Aside0 (Kd.R (Kd.int .i64) 3 w' w.heap.size (fun _ => True) v7 x7_1) ∧ Aside0 (w'.heap[gb335]? = some (.cells #[.string a0_0, .int .i64 a0_1, (.slice A0_2 l0_2.length c0_2), (.slice A0_3 l0_3.length c0_3)] 36 (0, 0))) ∧ Aside0 (Below w.heap.size w w'))
  case atStart => exact ⟨(([] : List Int)), (0), (by first | rfl | (simp; done) | (simp [*]; done)), H', ⟨Nat.le_refl _⟩, ⟨by first | exact Kd.R_nil _ _ _ _ _ | exact Kd.N_nil _ _ _ _ _ | exact Kd.V_nil _ _ _ _ _ | exact Kd.Q_nil _ _ _ _ _ | exact Kd.S_nil _ _ _ _ _⟩, ⟨by (with_reducible repeat (first | refine blk_drewN ?_ _ | refine blk_drew ?_ | refine blk_alloc ?_ _)); exact BK335.out⟩, ⟨by repeat (first | (with_reducible first | exact HB.out | apply below_alloc | apply pw_below_drewN | apply below_drew1 | refine below_set ?_ GE335.out) | exact HB.out)⟩⟩
  case round =>
    clear H'
    try clear c1
    try clear p2
    obtain ⟨x7_1, x8_1, rfl, HA, HK1, HO_7, BK335, HB⟩ := hrel
    cases gk with
    | zero => exact absurd HA.out (by simp [ontimeref19_At.l0])
    | succ k1 =>
      have H := HA.out
      clear HA
      simp only [ontimeref19_At.l0] at H
      by_cases c5 : x8_1 < a0_1
      · rw [if_pos c5] at H
        have c5b0 : decide (x8_1 < a0_1) = true := decide_eq_true c5
        clear c5
        by_cases c6 : 0 ≤ a1
        · rw [if_pos c6] at H
          have c6b0 : decide (0 ≤ a1) = true := decide_eq_true c6
          clear c6
          by_cases c7 : a1 < (l0_3.length : Int)
          · rw [if_pos c7] at H
            have c7b0 : decide (a1 < (l0_3.length : Int)) = true := decide_eq_true c7
            clear c7
            by_cases c8 : a2 > (((rd_T79 l0_3 a1).f0).length : Int)
            · rw [if_pos c8] at H
              have c8b0 : decide ((((rd_T79 l0_3 a1).f0).length : Int) < a2) = true := decide_eq_true c8
              clear c8
              replace H := Option.bind_eq_some_iff.mp H
              obtain ⟨t337, A90, H⟩ := H
              replace H : (if t337 = true then (if x7_1.length < 17592186044416 then (ontimeref19_At.l0 k1 a1 a2 (x7_1 ++ [x8_1]) (wrap64 (x8_1 + 1)) a0_0 a0_1 l0_2 l0_3) else (none)) else (if a2 ≤ (((rd_T79 l0_3 a1).f0).length : Int) then ((ontimeref19_Live.f k1 a0_0 a0_1 l0_2 l0_3 a1 a2 x8_1).bind fun t342 => (if t342 = true then (if x7_1.length < 17592186044416 then (ontimeref19_At.l0 k1 a1 a2 (x7_1 ++ [x8_1]) (wrap64 (x8_1 + 1)) a0_0 a0_1 l0_2 l0_3) else (none)) else (ontimeref19_At.l0 k1 a1 a2 x7_1 (wrap64 (x8_1 + 1)) a0_0 a0_1 l0_2 l0_3))) else (ontimeref19_At.l0 k1 a1 a2 x7_1 (wrap64 (x8_1 + 1)) a0_0 a0_1 l0_2 l0_3))) = some r := H
              have A9 := Aside0.mk A90
              clear A90
              by_cases c10 : t337 = true
              · subst c10
                have H1 : (if x7_1.length < 17592186044416 then (ontimeref19_At.l0 k1 a1 a2 (x7_1 ++ [x8_1]) (wrap64 (x8_1 + 1)) a0_0 a0_1 l0_2 l0_3) else (none)) = some r := by rw [if_pos rfl] at H; exact H
                clear H
                have H := H1
                clear H1
                by_cases c11 : x7_1.length < 17592186044416
                · rw [if_pos c11] at H
                  have LMc11 := Aside0.mk c11
                  clear c11
                  obtain ⟨y338, hy338⟩ : ∃ y_ : List Int, y_ = (x7_1 ++ [x8_1]) := ⟨_, rfl⟩
                  replace H : (ontimeref19_At.l0 k1 a1 a2 y338 (wrap64 (x8_1 + 1)) a0_0 a0_1 l0_2 l0_3) = some r := by first | (rw [hy338]; with_reducible exact H) | (have H2_ := (Option.bind_some _ _).symm.trans H; rw [hy338]; with_reducible exact H2_) | (have H2_ := (Option.bind_some _ _).symm.trans H; with_reducible exact H2_) | with_reducible exact H | (rw [hy338]; exact H) | exact H
                  have Ny338 := Aside0.mk hy338
                  clear hy338
                  have H' := Aside0.mk H
                  clear H
                  have hcz12_0 : wr.cell? ⟨gb335, 0, none⟩ = some (.string a0_0) := (blk_cell BK335.out 0).trans rfl
                  have hcz12_1 : wr.cell? ⟨gb335, 1, none⟩ = some (.int .i64 a0_1) := (blk_cell BK335.out 1).trans rfl
                  have hcz12_2 : wr.cell? ⟨gb335, 2, none⟩ = some (.slice A0_2 l0_2.length c0_2) := (blk_cell BK335.out 2).trans rfl
                  have hcz12_3 : wr.cell? ⟨gb335, 3, none⟩ = some (.slice A0_3 l0_3.length c0_3) := (blk_cell BK335.out 3).trans rfl
                  have hfz12_0 := blk_frozen BK335.out 0
                  have hfz12_1 := blk_frozen BK335.out 1
                  have hfz12_2 := blk_frozen BK335.out 2
                  have hfz12_3 := blk_frozen BK335.out 3
                  have p336 : 0 ≤ (a1 : Int) := of_decide_eq_true (by first | (with_reducible assumption) | assumption)
                  have q336 : a1 < (l0_3.length : Int) := of_decide_eq_true (by first | (with_reducible assumption) | assumption)
                  obtain ⟨ad336, A336_0, c336_0, e336, hx336_0, hx336_1, hx336_2, hx336_3, hx336_4, hl336_0, hi336_0⟩ := at_T79 HR0_3.out a1 p336 q336
                  cases e336
                  replace hx336_0 := (HB.out.cell (World.block_lt_of_cell? w _ hx336_0)).trans hx336_0
                  replace hx336_1 := (HB.out.cell (World.block_lt_of_cell? w _ hx336_1)).trans hx336_1
                  replace hx336_2 := (HB.out.cell (World.block_lt_of_cell? w _ hx336_2)).trans hx336_2
                  replace hx336_3 := (HB.out.cell (World.block_lt_of_cell? w _ hx336_3)).trans hx336_3
                  replace hx336_4 := (HB.out.cell (World.block_lt_of_cell? w _ hx336_4)).trans hx336_4
                  have HR336_0 := Aside0.mk hi336_0
                  have HC336_0 := Aside0.mk hl336_0
                  clear hi336_0 hl336_0
                  replace p336 := eq_true p336
                  replace q336 := eq_true q336
                  go_wp2_with (first | (go_at_call 45; (with_reducible refine (ontimeref19_Leaves.calls k1 a0_0 a0_1 _ _ l0_2 _ _ l0_3 a1 x8_1 true _ ?side1 ?side2 ?side3 ?side4 A9.out).mono ?_); (case side1 => repeat (first | exact (Kd.C_below HR0_2.out HB.out) | (with_reducible refine Kd.C_alloc ?_ _) | (with_reducible refine Kd.C_drewN ?_ _) | (with_reducible refine Kd.C_drew ?_))); (case side2 => exact HC0_2.out); (case side3 => repeat (first | exact (Kd.C_below HR0_3.out HB.out) | (with_reducible refine Kd.C_alloc ?_ _) | (with_reducible refine Kd.C_drewN ?_ _) | (with_reducible refine Kd.C_drew ?_))); (case side4 => exact HC0_3.out); rintro e w13 ⟨rfl, hb⟩; have n0_ := Aside0.mk (Kd.R_below (by (with_reducible repeat (first | apply Kd.R_alloc | apply Kd.R_drewN | apply Kd.R_drew)); exact HO_7.out) hb); have n1_ := Aside0.mk (blk_below (g := gb335) (o := .cells #[.string a0_0, .int .i64 a0_1, .slice A0_2 l0_2.length c0_2, .slice (some ad336) l0_3.length c0_3] 36 (0, 0)) (by (with_reducible repeat (first | refine blk_drewN ?_ _ | refine blk_drew ?_ | refine blk_alloc ?_ _)); exact BK335.out) hb); have n2_ := Aside0.mk (below_step (by repeat (first | (with_reducible first | exact HB.out | apply below_alloc | apply pw_below_drewN | apply below_drew1 | refine below_set ?_ GE335.out) | exact HB.out)) hb); clear HO_7; clear BK335; clear HB; have HO_7 := n0_; have BK335 := n1_; have HB := n2_; clear n0_ n1_ n2_; (try clear hb); (try clear hb2); (try clear hk); (try clear hi)) | ((with_reducible refine gate_builtin (b := .append) (xs := #[.tmp 48, .tmp 50]) rfl ?_); (try (refine gate_guard (by rfl) ?_; dsimp only)); at_builtin; refine Kd.R_append (Kd.int .i64) (w0 := w) w.heap.size rfl (.tmp 48) (.tmp 50) 39 3 (.int .i64 0) 8 rfl Try.underlying39 info3 rfl (by decide) (by omega) u7 x7_1 x8_1 [.int .i64 x8_1] (fun _ => True) (fun _ => False) rfl rfl ?aP (fun _ hk => hk.elim) ?aF ?aO ?aB ?aS ?aL ?_; (case aP => exact rfl); (case aB => exact (by repeat (first | (with_reducible first | exact HB.out | apply below_alloc | apply pw_below_drewN | apply below_drew1 | refine below_set ?_ GE335.out) | exact HB.out))); (case aF => exact (fun _ _ => trivial)); (case aO => exact (by (with_reducible repeat (first | apply Kd.R_alloc | apply Kd.R_drewN | apply Kd.R_drew)); exact HO_7.out)); (case aS => exact (below_size (by repeat (first | (with_reducible first | exact HB.out | apply below_alloc | apply pw_below_drewN | apply below_drew1 | refine below_set ?_ GE335.out) | exact HB.out)))); (case aL => have := LMc11.out; omega); intro v339 w14 ho hb hg hat; rw [← Ny338.out] at ho; have n0_ := Aside0.mk (blk_grown (g := gb335) (o := .cells #[.string a0_0, .int .i64 a0_1, .slice A0_2 l0_2.length c0_2, .slice (some ad336) l0_3.length c0_3] 36 (0, 0)) (by (with_reducible repeat (first | refine blk_drewN ?_ _ | refine blk_drew ?_ | refine blk_alloc ?_ _)); exact BK335.out) hg (Kd.R_ne HO_7.out BK335.out (by decide))); have n1_ := Aside0.mk (hb); have n2_ := Aside0.mk (ho); clear BK335; clear HB; clear HO_7; have BK335 := n0_; have HB := n1_; have HO340 := n2_; clear n0_ n1_ n2_; clear ho hb hg hat))
                  go_roundg k1
                  case measure => have := HK1.out; omega
                  case rel => exact ⟨(y338), (wrap64 (x8_1 + 1)), (by first | rfl | (simp; done) | (simp [*]; done)), H', ⟨by have := HK1.out; omega⟩, ⟨by (with_reducible repeat (first | apply Kd.R_alloc | apply Kd.R_drewN | apply Kd.R_drew)); exact HO340.out⟩, ⟨by (with_reducible repeat (first | refine blk_drewN ?_ _ | refine blk_drew ?_ | refine blk_alloc ?_ _)); exact BK335.out⟩, ⟨by repeat (first | (with_reducible first | exact HB.out | apply below_alloc | apply pw_below_drewN | apply below_drew1 | refine below_set ?_ GE335.out) | exact HB.out)⟩⟩
                · rw [if_neg c11] at H
                  exact absurd H (by simp)
              · replace c10 := Bool.eq_false_iff.mpr c10
                subst c10
                have H1 : (if a2 ≤ (((rd_T79 l0_3 a1).f0).length : Int) then ((ontimeref19_Live.f k1 a0_0 a0_1 l0_2 l0_3 a1 a2 x8_1).bind fun t342 => (if t342 = true then (if x7_1.length < 17592186044416 then (ontimeref19_At.l0 k1 a1 a2 (x7_1 ++ [x8_1]) (wrap64 (x8_1 + 1)) a0_0 a0_1 l0_2 l0_3) else (none)) else (ontimeref19_At.l0 k1 a1 a2 x7_1 (wrap64 (x8_1 + 1)) a0_0 a0_1 l0_2 l0_3))) else (ontimeref19_At.l0 k1 a1 a2 x7_1 (wrap64 (x8_1 + 1)) a0_0 a0_1 l0_2 l0_3)) = some r := by rw [if_neg (show ¬ (false = true) by decide)] at H; exact H
                clear H
                have H := H1
                clear H1
                by_cases c15 : a2 ≤ (((rd_T79 l0_3 a1).f0).length : Int)
                · rw [if_pos c15] at H
                  have c15b0 : decide (a2 ≤ (((rd_T79 l0_3 a1).f0).length : Int)) = true := decide_eq_true c15
                  clear c15
                  replace H := Option.bind_eq_some_iff.mp H
                  obtain ⟨t342, A160, H⟩ := H
                  replace H : (if t342 = true then (if x7_1.length < 17592186044416 then (ontimeref19_At.l0 k1 a1 a2 (x7_1 ++ [x8_1]) (wrap64 (x8_1 + 1)) a0_0 a0_1 l0_2 l0_3) else (none)) else (ontimeref19_At.l0 k1 a1 a2 x7_1 (wrap64 (x8_1 + 1)) a0_0 a0_1 l0_2 l0_3)) = some r := H
                  have A16 := Aside0.mk A160
                  clear A160
                  by_cases c17 : t342 = true
                  · subst c17
                    have H1 : (if x7_1.length < 17592186044416 then (ontimeref19_At.l0 k1 a1 a2 (x7_1 ++ [x8_1]) (wrap64 (x8_1 + 1)) a0_0 a0_1 l0_2 l0_3) else (none)) = some r := by rw [if_pos rfl] at H; exact H
                    clear H
                    have H := H1
                    clear H1
                    by_cases c18 : x7_1.length < 17592186044416
                    · rw [if_pos c18] at H
                      have LMc18 := Aside0.mk c18
                      clear c18
                      obtain ⟨y343, hy343⟩ : ∃ y_ : List Int, y_ = (x7_1 ++ [x8_1]) := ⟨_, rfl⟩
                      replace H : (ontimeref19_At.l0 k1 a1 a2 y343 (wrap64 (x8_1 + 1)) a0_0 a0_1 l0_2 l0_3) = some r := by first | (rw [hy343]; with_reducible exact H) | (have H2_ := (Option.bind_some _ _).symm.trans H; rw [hy343]; with_reducible exact H2_) | (have H2_ := (Option.bind_some _ _).symm.trans H; with_reducible exact H2_) | with_reducible exact H | (rw [hy343]; exact H) | exact H
                      have Ny343 := Aside0.mk hy343
                      clear hy343
                      have H' := Aside0.mk H
                      clear H
                      have hcz19_0 : wr.cell? ⟨gb335, 0, none⟩ = some (.string a0_0) := (blk_cell BK335.out 0).trans rfl
                      have hcz19_1 : wr.cell? ⟨gb335, 1, none⟩ = some (.int .i64 a0_1) := (blk_cell BK335.out 1).trans rfl
                      have hcz19_2 : wr.cell? ⟨gb335, 2, none⟩ = some (.slice A0_2 l0_2.length c0_2) := (blk_cell BK335.out 2).trans rfl
                      have hcz19_3 : wr.cell? ⟨gb335, 3, none⟩ = some (.slice A0_3 l0_3.length c0_3) := (blk_cell BK335.out 3).trans rfl
                      have hfz19_0 := blk_frozen BK335.out 0
                      have hfz19_1 := blk_frozen BK335.out 1
                      have hfz19_2 := blk_frozen BK335.out 2
                      have hfz19_3 := blk_frozen BK335.out 3
                      have p336 : 0 ≤ (a1 : Int) := of_decide_eq_true (by first | (with_reducible assumption) | assumption)
                      have q336 : a1 < (l0_3.length : Int) := of_decide_eq_true (by first | (with_reducible assumption) | assumption)
                      obtain ⟨ad336, A336_0, c336_0, e336, hx336_0, hx336_1, hx336_2, hx336_3, hx336_4, hl336_0, hi336_0⟩ := at_T79 HR0_3.out a1 p336 q336
                      cases e336
                      replace hx336_0 := (HB.out.cell (World.block_lt_of_cell? w _ hx336_0)).trans hx336_0
                      replace hx336_1 := (HB.out.cell (World.block_lt_of_cell? w _ hx336_1)).trans hx336_1
                      replace hx336_2 := (HB.out.cell (World.block_lt_of_cell? w _ hx336_2)).trans hx336_2
                      replace hx336_3 := (HB.out.cell (World.block_lt_of_cell? w _ hx336_3)).trans hx336_3
                      replace hx336_4 := (HB.out.cell (World.block_lt_of_cell? w _ hx336_4)).trans hx336_4
                      have HR336_0 := Aside0.mk hi336_0
                      have HC336_0 := Aside0.mk hl336_0
                      clear hi336_0 hl336_0
                      replace p336 := eq_true p336
                      replace q336 := eq_true q336
                      go_wp2_with (first | (go_at_call 45; (with_reducible refine (ontimeref19_Leaves.calls k1 a0_0 a0_1 _ _ l0_2 _ _ l0_3 a1 x8_1 false _ ?side1 ?side2 ?side3 ?side4 A9.out).mono ?_); (case side1 => repeat (first | exact (Kd.C_below HR0_2.out HB.out) | (with_reducible refine Kd.C_alloc ?_ _) | (with_reducible refine Kd.C_drewN ?_ _) | (with_reducible refine Kd.C_drew ?_))); (case side2 => exact HC0_2.out); (case side3 => repeat (first | exact (Kd.C_below HR0_3.out HB.out) | (with_reducible refine Kd.C_alloc ?_ _) | (with_reducible refine Kd.C_drewN ?_ _) | (with_reducible refine Kd.C_drew ?_))); (case side4 => exact HC0_3.out); rintro e w20 ⟨rfl, hb⟩; have n0_ := Aside0.mk (Kd.R_below (by (with_reducible repeat (first | apply Kd.R_alloc | apply Kd.R_drewN | apply Kd.R_drew)); exact HO_7.out) hb); have n1_ := Aside0.mk (blk_below (g := gb335) (o := .cells #[.string a0_0, .int .i64 a0_1, .slice A0_2 l0_2.length c0_2, .slice (some ad336) l0_3.length c0_3] 36 (0, 0)) (by (with_reducible repeat (first | refine blk_drewN ?_ _ | refine blk_drew ?_ | refine blk_alloc ?_ _)); exact BK335.out) hb); have n2_ := Aside0.mk (below_step (by repeat (first | (with_reducible first | exact HB.out | apply below_alloc | apply pw_below_drewN | apply below_drew1 | refine below_set ?_ GE335.out) | exact HB.out)) hb); clear HO_7; clear BK335; clear HB; have HO_7 := n0_; have BK335 := n1_; have HB := n2_; clear n0_ n1_ n2_; (try clear hb); (try clear hb2); (try clear hk); (try clear hi); have hcz21_0 : w20.cell? ⟨gb335, 0, none⟩ = some (.string a0_0) := (blk_cell BK335.out 0).trans rfl; have hcz21_1 : w20.cell? ⟨gb335, 1, none⟩ = some (.int .i64 a0_1) := (blk_cell BK335.out 1).trans rfl; have hcz21_2 : w20.cell? ⟨gb335, 2, none⟩ = some (.slice A0_2 l0_2.length c0_2) := (blk_cell BK335.out 2).trans rfl; have hcz21_3 : w20.cell? ⟨gb335, 3, none⟩ = some (.slice (some ad336) l0_3.length c0_3) := (blk_cell BK335.out 3).trans rfl; have hfz21_0 := blk_frozen BK335.out 0; have hfz21_1 := blk_frozen BK335.out 1; have hfz21_2 := blk_frozen BK335.out 2; have hfz21_3 := blk_frozen BK335.out 3; have p341 : 0 ≤ (a1 : Int) := of_decide_eq_true (by first | (with_reducible assumption) | assumption); have q341 : a1 < (l0_3.length : Int) := of_decide_eq_true (by first | (with_reducible assumption) | assumption); obtain ⟨ad341, A341_0, c341_0, e341, hx341_0, hx341_1, hx341_2, hx341_3, hx341_4, hl341_0, hi341_0⟩ := at_T79 HR0_3.out a1 p341 q341; obtain rfl : ad336 = ad341 := (by injection e341); replace hx341_0 := (HB.out.cell (World.block_lt_of_cell? w _ hx341_0)).trans hx341_0; replace hx341_1 := (HB.out.cell (World.block_lt_of_cell? w _ hx341_1)).trans hx341_1; replace hx341_2 := (HB.out.cell (World.block_lt_of_cell? w _ hx341_2)).trans hx341_2; replace hx341_3 := (HB.out.cell (World.block_lt_of_cell? w _ hx341_3)).trans hx341_3; replace hx341_4 := (HB.out.cell (World.block_lt_of_cell? w _ hx341_4)).trans hx341_4; have HR341_0 := Aside0.mk hi341_0; have HC341_0 := Aside0.mk hl341_0; clear hi341_0 hl341_0; replace p341 := eq_true p341; replace q341 := eq_true q341) | (go_at_call 46; (with_reducible refine (ontimeref19_Live.calls k1 a0_0 a0_1 _ _ l0_2 _ _ l0_3 a1 a2 x8_1 true _ ?side1 ?side2 ?side3 ?side4 A16.out).mono ?_); (case side1 => repeat (first | exact (Kd.C_below HR0_2.out HB.out) | (with_reducible refine Kd.C_alloc ?_ _) | (with_reducible refine Kd.C_drewN ?_ _) | (with_reducible refine Kd.C_drew ?_))); (case side2 => exact HC0_2.out); (case side3 => repeat (first | exact (Kd.C_below HR0_3.out HB.out) | (with_reducible refine Kd.C_alloc ?_ _) | (with_reducible refine Kd.C_drewN ?_ _) | (with_reducible refine Kd.C_drew ?_))); (case side4 => exact HC0_3.out); rintro e w22 ⟨rfl, hb⟩; have n0_ := Aside0.mk (Kd.R_below (by (with_reducible repeat (first | apply Kd.R_alloc | apply Kd.R_drewN | apply Kd.R_drew)); exact HO_7.out) hb); have n1_ := Aside0.mk (blk_below (g := gb335) (o := .cells #[.string a0_0, .int .i64 a0_1, .slice A0_2 l0_2.length c0_2, .slice (some ad336) l0_3.length c0_3] 36 (0, 0)) (by (with_reducible repeat (first | refine blk_drewN ?_ _ | refine blk_drew ?_ | refine blk_alloc ?_ _)); exact BK335.out) hb); have n2_ := Aside0.mk (below_step (by repeat (first | (with_reducible first | exact HB.out | apply below_alloc | apply pw_below_drewN | apply below_drew1 | refine below_set ?_ GE335.out) | exact HB.out)) hb); clear HO_7; clear BK335; clear HB; have HO_7 := n0_; have BK335 := n1_; have HB := n2_; clear n0_ n1_ n2_; (try clear hb); (try clear hb2); (try clear hk); (try clear hi)) | ((with_reducible refine gate_builtin (b := .append) (xs := #[.tmp 48, .tmp 50]) rfl ?_); (try (refine gate_guard (by rfl) ?_; dsimp only)); at_builtin; refine Kd.R_append (Kd.int .i64) (w0 := w) w.heap.size rfl (.tmp 48) (.tmp 50) 39 3 (.int .i64 0) 8 rfl Try.underlying39 info3 rfl (by decide) (by omega) u7 x7_1 x8_1 [.int .i64 x8_1] (fun _ => True) (fun _ => False) rfl rfl ?aP (fun _ hk => hk.elim) ?aF ?aO ?aB ?aS ?aL ?_; (case aP => exact rfl); (case aB => exact (by repeat (first | (with_reducible first | exact HB.out | apply below_alloc | apply pw_below_drewN | apply below_drew1 | refine below_set ?_ GE335.out) | exact HB.out))); (case aF => exact (fun _ _ => trivial)); (case aO => exact (by (with_reducible repeat (first | apply Kd.R_alloc | apply Kd.R_drewN | apply Kd.R_drew)); exact HO_7.out)); (case aS => exact (below_size (by repeat (first | (with_reducible first | exact HB.out | apply below_alloc | apply pw_below_drewN | apply below_drew1 | refine below_set ?_ GE335.out) | exact HB.out)))); (case aL => have := LMc18.out; omega); intro v344 w23 ho hb hg hat; rw [← Ny343.out] at ho; have n0_ := Aside0.mk (blk_grown (g := gb335) (o := .cells #[.string a0_0, .int .i64 a0_1, .slice A0_2 l0_2.length c0_2, .slice (some ad336) l0_3.length c0_3] 36 (0, 0)) (by (with_reducible repeat (first | refine blk_drewN ?_ _ | refine blk_drew ?_ | refine blk_alloc ?_ _)); exact BK335.out) hg (Kd.R_ne HO_7.out BK335.out (by decide))); have n1_ := Aside0.mk (hb); have n2_ := Aside0.mk (ho); clear BK335; clear HB; clear HO_7; have BK335 := n0_; have HB := n1_; have HO345 := n2_; clear n0_ n1_ n2_; clear ho hb hg hat))
                      go_roundg k1
                      case measure => have := HK1.out; omega
                      case rel => exact ⟨(y343), (wrap64 (x8_1 + 1)), (by first | rfl | (simp; done) | (simp [*]; done)), H', ⟨by have := HK1.out; omega⟩, ⟨by (with_reducible repeat (first | apply Kd.R_alloc | apply Kd.R_drewN | apply Kd.R_drew)); exact HO345.out⟩, ⟨by (with_reducible repeat (first | refine blk_drewN ?_ _ | refine blk_drew ?_ | refine blk_alloc ?_ _)); exact BK335.out⟩, ⟨by repeat (first | (with_reducible first | exact HB.out | apply below_alloc | apply pw_below_drewN | apply below_drew1 | refine below_set ?_ GE335.out) | exact HB.out)⟩⟩
                    · rw [if_neg c18] at H
                      exact absurd H (by simp)
                  · replace c17 := Bool.eq_false_iff.mpr c17
                    subst c17
                    have H1 : (ontimeref19_At.l0 k1 a1 a2 x7_1 (wrap64 (x8_1 + 1)) a0_0 a0_1 l0_2 l0_3) = some r := by rw [if_neg (show ¬ (false = true) by decide)] at H; exact H
                    clear H
                    have H := H1
                    clear H1
                    have H' := Aside0.mk H
                    clear H
                    have hcz24_0 : wr.cell? ⟨gb335, 0, none⟩ = some (.string a0_0) := (blk_cell BK335.out 0).trans rfl
                    have hcz24_1 : wr.cell? ⟨gb335, 1, none⟩ = some (.int .i64 a0_1) := (blk_cell BK335.out 1).trans rfl
                    have hcz24_2 : wr.cell? ⟨gb335, 2, none⟩ = some (.slice A0_2 l0_2.length c0_2) := (blk_cell BK335.out 2).trans rfl
                    have hcz24_3 : wr.cell? ⟨gb335, 3, none⟩ = some (.slice A0_3 l0_3.length c0_3) := (blk_cell BK335.out 3).trans rfl
                    have hfz24_0 := blk_frozen BK335.out 0
                    have hfz24_1 := blk_frozen BK335.out 1
                    have hfz24_2 := blk_frozen BK335.out 2
                    have hfz24_3 := blk_frozen BK335.out 3
                    have p336 : 0 ≤ (a1 : Int) := of_decide_eq_true (by first | (with_reducible assumption) | assumption)
                    have q336 : a1 < (l0_3.length : Int) := of_decide_eq_true (by first | (with_reducible assumption) | assumption)
                    obtain ⟨ad336, A336_0, c336_0, e336, hx336_0, hx336_1, hx336_2, hx336_3, hx336_4, hl336_0, hi336_0⟩ := at_T79 HR0_3.out a1 p336 q336
                    cases e336
                    replace hx336_0 := (HB.out.cell (World.block_lt_of_cell? w _ hx336_0)).trans hx336_0
                    replace hx336_1 := (HB.out.cell (World.block_lt_of_cell? w _ hx336_1)).trans hx336_1
                    replace hx336_2 := (HB.out.cell (World.block_lt_of_cell? w _ hx336_2)).trans hx336_2
                    replace hx336_3 := (HB.out.cell (World.block_lt_of_cell? w _ hx336_3)).trans hx336_3
                    replace hx336_4 := (HB.out.cell (World.block_lt_of_cell? w _ hx336_4)).trans hx336_4
                    have HR336_0 := Aside0.mk hi336_0
                    have HC336_0 := Aside0.mk hl336_0
                    clear hi336_0 hl336_0
                    replace p336 := eq_true p336
                    replace q336 := eq_true q336
                    go_wp2_with (first | (go_at_call 45; (with_reducible refine (ontimeref19_Leaves.calls k1 a0_0 a0_1 _ _ l0_2 _ _ l0_3 a1 x8_1 false _ ?side1 ?side2 ?side3 ?side4 A9.out).mono ?_); (case side1 => repeat (first | exact (Kd.C_below HR0_2.out HB.out) | (with_reducible refine Kd.C_alloc ?_ _) | (with_reducible refine Kd.C_drewN ?_ _) | (with_reducible refine Kd.C_drew ?_))); (case side2 => exact HC0_2.out); (case side3 => repeat (first | exact (Kd.C_below HR0_3.out HB.out) | (with_reducible refine Kd.C_alloc ?_ _) | (with_reducible refine Kd.C_drewN ?_ _) | (with_reducible refine Kd.C_drew ?_))); (case side4 => exact HC0_3.out); rintro e w25 ⟨rfl, hb⟩; have n0_ := Aside0.mk (Kd.R_below (by (with_reducible repeat (first | apply Kd.R_alloc | apply Kd.R_drewN | apply Kd.R_drew)); exact HO_7.out) hb); have n1_ := Aside0.mk (blk_below (g := gb335) (o := .cells #[.string a0_0, .int .i64 a0_1, .slice A0_2 l0_2.length c0_2, .slice (some ad336) l0_3.length c0_3] 36 (0, 0)) (by (with_reducible repeat (first | refine blk_drewN ?_ _ | refine blk_drew ?_ | refine blk_alloc ?_ _)); exact BK335.out) hb); have n2_ := Aside0.mk (below_step (by repeat (first | (with_reducible first | exact HB.out | apply below_alloc | apply pw_below_drewN | apply below_drew1 | refine below_set ?_ GE335.out) | exact HB.out)) hb); clear HO_7; clear BK335; clear HB; have HO_7 := n0_; have BK335 := n1_; have HB := n2_; clear n0_ n1_ n2_; (try clear hb); (try clear hb2); (try clear hk); (try clear hi); have hcz26_0 : w25.cell? ⟨gb335, 0, none⟩ = some (.string a0_0) := (blk_cell BK335.out 0).trans rfl; have hcz26_1 : w25.cell? ⟨gb335, 1, none⟩ = some (.int .i64 a0_1) := (blk_cell BK335.out 1).trans rfl; have hcz26_2 : w25.cell? ⟨gb335, 2, none⟩ = some (.slice A0_2 l0_2.length c0_2) := (blk_cell BK335.out 2).trans rfl; have hcz26_3 : w25.cell? ⟨gb335, 3, none⟩ = some (.slice (some ad336) l0_3.length c0_3) := (blk_cell BK335.out 3).trans rfl; have hfz26_0 := blk_frozen BK335.out 0; have hfz26_1 := blk_frozen BK335.out 1; have hfz26_2 := blk_frozen BK335.out 2; have hfz26_3 := blk_frozen BK335.out 3; have p341 : 0 ≤ (a1 : Int) := of_decide_eq_true (by first | (with_reducible assumption) | assumption); have q341 : a1 < (l0_3.length : Int) := of_decide_eq_true (by first | (with_reducible assumption) | assumption); obtain ⟨ad341, A341_0, c341_0, e341, hx341_0, hx341_1, hx341_2, hx341_3, hx341_4, hl341_0, hi341_0⟩ := at_T79 HR0_3.out a1 p341 q341; obtain rfl : ad336 = ad341 := (by injection e341); replace hx341_0 := (HB.out.cell (World.block_lt_of_cell? w _ hx341_0)).trans hx341_0; replace hx341_1 := (HB.out.cell (World.block_lt_of_cell? w _ hx341_1)).trans hx341_1; replace hx341_2 := (HB.out.cell (World.block_lt_of_cell? w _ hx341_2)).trans hx341_2; replace hx341_3 := (HB.out.cell (World.block_lt_of_cell? w _ hx341_3)).trans hx341_3; replace hx341_4 := (HB.out.cell (World.block_lt_of_cell? w _ hx341_4)).trans hx341_4; have HR341_0 := Aside0.mk hi341_0; have HC341_0 := Aside0.mk hl341_0; clear hi341_0 hl341_0; replace p341 := eq_true p341; replace q341 := eq_true q341) | (go_at_call 46; (with_reducible refine (ontimeref19_Live.calls k1 a0_0 a0_1 _ _ l0_2 _ _ l0_3 a1 a2 x8_1 false _ ?side1 ?side2 ?side3 ?side4 A16.out).mono ?_); (case side1 => repeat (first | exact (Kd.C_below HR0_2.out HB.out) | (with_reducible refine Kd.C_alloc ?_ _) | (with_reducible refine Kd.C_drewN ?_ _) | (with_reducible refine Kd.C_drew ?_))); (case side2 => exact HC0_2.out); (case side3 => repeat (first | exact (Kd.C_below HR0_3.out HB.out) | (with_reducible refine Kd.C_alloc ?_ _) | (with_reducible refine Kd.C_drewN ?_ _) | (with_reducible refine Kd.C_drew ?_))); (case side4 => exact HC0_3.out); rintro e w27 ⟨rfl, hb⟩; have n0_ := Aside0.mk (Kd.R_below (by (with_reducible repeat (first | apply Kd.R_alloc | apply Kd.R_drewN | apply Kd.R_drew)); exact HO_7.out) hb); have n1_ := Aside0.mk (blk_below (g := gb335) (o := .cells #[.string a0_0, .int .i64 a0_1, .slice A0_2 l0_2.length c0_2, .slice (some ad336) l0_3.length c0_3] 36 (0, 0)) (by (with_reducible repeat (first | refine blk_drewN ?_ _ | refine blk_drew ?_ | refine blk_alloc ?_ _)); exact BK335.out) hb); have n2_ := Aside0.mk (below_step (by repeat (first | (with_reducible first | exact HB.out | apply below_alloc | apply pw_below_drewN | apply below_drew1 | refine below_set ?_ GE335.out) | exact HB.out)) hb); clear HO_7; clear BK335; clear HB; have HO_7 := n0_; have BK335 := n1_; have HB := n2_; clear n0_ n1_ n2_; (try clear hb); (try clear hb2); (try clear hk); (try clear hi)))
                    go_roundg k1
                    case measure => have := HK1.out; omega
                    case rel => exact ⟨(x7_1), (wrap64 (x8_1 + 1)), (by first | rfl | (simp; done) | (simp [*]; done)), H', ⟨by have := HK1.out; omega⟩, ⟨by (with_reducible repeat (first | apply Kd.R_alloc | apply Kd.R_drewN | apply Kd.R_drew)); exact HO_7.out⟩, ⟨by (with_reducible repeat (first | refine blk_drewN ?_ _ | refine blk_drew ?_ | refine blk_alloc ?_ _)); exact BK335.out⟩, ⟨by repeat (first | (with_reducible first | exact HB.out | apply below_alloc | apply pw_below_drewN | apply below_drew1 | refine below_set ?_ GE335.out) | exact HB.out)⟩⟩
                · rw [if_neg c15] at H
                  have c15b0 : decide (a2 ≤ (((rd_T79 l0_3 a1).f0).length : Int)) = false := decide_eq_false c15
                  clear c15
                  have H' := Aside0.mk H
                  clear H
                  have hcz28_0 : wr.cell? ⟨gb335, 0, none⟩ = some (.string a0_0) := (blk_cell BK335.out 0).trans rfl
                  have hcz28_1 : wr.cell? ⟨gb335, 1, none⟩ = some (.int .i64 a0_1) := (blk_cell BK335.out 1).trans rfl
                  have hcz28_2 : wr.cell? ⟨gb335, 2, none⟩ = some (.slice A0_2 l0_2.length c0_2) := (blk_cell BK335.out 2).trans rfl
                  have hcz28_3 : wr.cell? ⟨gb335, 3, none⟩ = some (.slice A0_3 l0_3.length c0_3) := (blk_cell BK335.out 3).trans rfl
                  have hfz28_0 := blk_frozen BK335.out 0
                  have hfz28_1 := blk_frozen BK335.out 1
                  have hfz28_2 := blk_frozen BK335.out 2
                  have hfz28_3 := blk_frozen BK335.out 3
                  have p336 : 0 ≤ (a1 : Int) := of_decide_eq_true (by first | (with_reducible assumption) | assumption)
                  have q336 : a1 < (l0_3.length : Int) := of_decide_eq_true (by first | (with_reducible assumption) | assumption)
                  obtain ⟨ad336, A336_0, c336_0, e336, hx336_0, hx336_1, hx336_2, hx336_3, hx336_4, hl336_0, hi336_0⟩ := at_T79 HR0_3.out a1 p336 q336
                  cases e336
                  replace hx336_0 := (HB.out.cell (World.block_lt_of_cell? w _ hx336_0)).trans hx336_0
                  replace hx336_1 := (HB.out.cell (World.block_lt_of_cell? w _ hx336_1)).trans hx336_1
                  replace hx336_2 := (HB.out.cell (World.block_lt_of_cell? w _ hx336_2)).trans hx336_2
                  replace hx336_3 := (HB.out.cell (World.block_lt_of_cell? w _ hx336_3)).trans hx336_3
                  replace hx336_4 := (HB.out.cell (World.block_lt_of_cell? w _ hx336_4)).trans hx336_4
                  have HR336_0 := Aside0.mk hi336_0
                  have HC336_0 := Aside0.mk hl336_0
                  clear hi336_0 hl336_0
                  replace p336 := eq_true p336
                  replace q336 := eq_true q336
                  go_wp2_with (first | (go_at_call 45; (with_reducible refine (ontimeref19_Leaves.calls k1 a0_0 a0_1 _ _ l0_2 _ _ l0_3 a1 x8_1 false _ ?side1 ?side2 ?side3 ?side4 A9.out).mono ?_); (case side1 => repeat (first | exact (Kd.C_below HR0_2.out HB.out) | (with_reducible refine Kd.C_alloc ?_ _) | (with_reducible refine Kd.C_drewN ?_ _) | (with_reducible refine Kd.C_drew ?_))); (case side2 => exact HC0_2.out); (case side3 => repeat (first | exact (Kd.C_below HR0_3.out HB.out) | (with_reducible refine Kd.C_alloc ?_ _) | (with_reducible refine Kd.C_drewN ?_ _) | (with_reducible refine Kd.C_drew ?_))); (case side4 => exact HC0_3.out); rintro e w29 ⟨rfl, hb⟩; have n0_ := Aside0.mk (Kd.R_below (by (with_reducible repeat (first | apply Kd.R_alloc | apply Kd.R_drewN | apply Kd.R_drew)); exact HO_7.out) hb); have n1_ := Aside0.mk (blk_below (g := gb335) (o := .cells #[.string a0_0, .int .i64 a0_1, .slice A0_2 l0_2.length c0_2, .slice (some ad336) l0_3.length c0_3] 36 (0, 0)) (by (with_reducible repeat (first | refine blk_drewN ?_ _ | refine blk_drew ?_ | refine blk_alloc ?_ _)); exact BK335.out) hb); have n2_ := Aside0.mk (below_step (by repeat (first | (with_reducible first | exact HB.out | apply below_alloc | apply pw_below_drewN | apply below_drew1 | refine below_set ?_ GE335.out) | exact HB.out)) hb); clear HO_7; clear BK335; clear HB; have HO_7 := n0_; have BK335 := n1_; have HB := n2_; clear n0_ n1_ n2_; (try clear hb); (try clear hb2); (try clear hk); (try clear hi); have hcz30_0 : w29.cell? ⟨gb335, 0, none⟩ = some (.string a0_0) := (blk_cell BK335.out 0).trans rfl; have hcz30_1 : w29.cell? ⟨gb335, 1, none⟩ = some (.int .i64 a0_1) := (blk_cell BK335.out 1).trans rfl; have hcz30_2 : w29.cell? ⟨gb335, 2, none⟩ = some (.slice A0_2 l0_2.length c0_2) := (blk_cell BK335.out 2).trans rfl; have hcz30_3 : w29.cell? ⟨gb335, 3, none⟩ = some (.slice (some ad336) l0_3.length c0_3) := (blk_cell BK335.out 3).trans rfl; have hfz30_0 := blk_frozen BK335.out 0; have hfz30_1 := blk_frozen BK335.out 1; have hfz30_2 := blk_frozen BK335.out 2; have hfz30_3 := blk_frozen BK335.out 3; have p341 : 0 ≤ (a1 : Int) := of_decide_eq_true (by first | (with_reducible assumption) | assumption); have q341 : a1 < (l0_3.length : Int) := of_decide_eq_true (by first | (with_reducible assumption) | assumption); obtain ⟨ad341, A341_0, c341_0, e341, hx341_0, hx341_1, hx341_2, hx341_3, hx341_4, hl341_0, hi341_0⟩ := at_T79 HR0_3.out a1 p341 q341; obtain rfl : ad336 = ad341 := (by injection e341); replace hx341_0 := (HB.out.cell (World.block_lt_of_cell? w _ hx341_0)).trans hx341_0; replace hx341_1 := (HB.out.cell (World.block_lt_of_cell? w _ hx341_1)).trans hx341_1; replace hx341_2 := (HB.out.cell (World.block_lt_of_cell? w _ hx341_2)).trans hx341_2; replace hx341_3 := (HB.out.cell (World.block_lt_of_cell? w _ hx341_3)).trans hx341_3; replace hx341_4 := (HB.out.cell (World.block_lt_of_cell? w _ hx341_4)).trans hx341_4; have HR341_0 := Aside0.mk hi341_0; have HC341_0 := Aside0.mk hl341_0; clear hi341_0 hl341_0; replace p341 := eq_true p341; replace q341 := eq_true q341))
                  go_roundg k1
                  case measure => have := HK1.out; omega
                  case rel => exact ⟨(x7_1), (wrap64 (x8_1 + 1)), (by first | rfl | (simp; done) | (simp [*]; done)), H', ⟨by have := HK1.out; omega⟩, ⟨by (with_reducible repeat (first | apply Kd.R_alloc | apply Kd.R_drewN | apply Kd.R_drew)); exact HO_7.out⟩, ⟨by (with_reducible repeat (first | refine blk_drewN ?_ _ | refine blk_drew ?_ | refine blk_alloc ?_ _)); exact BK335.out⟩, ⟨by repeat (first | (with_reducible first | exact HB.out | apply below_alloc | apply pw_below_drewN | apply below_drew1 | refine below_set ?_ GE335.out) | exact HB.out)⟩⟩
            · rw [if_neg c8] at H
              have c8b0 : decide ((((rd_T79 l0_3 a1).f0).length : Int) < a2) = false := decide_eq_false c8
              clear c8
              by_cases c31 : a2 ≤ (((rd_T79 l0_3 a1).f0).length : Int)
              · rw [if_pos c31] at H
                have c31b0 : decide (a2 ≤ (((rd_T79 l0_3 a1).f0).length : Int)) = true := decide_eq_true c31
                clear c31
                replace H := Option.bind_eq_some_iff.mp H
                obtain ⟨t347, A320, H⟩ := H
                replace H : (if t347 = true then (if x7_1.length < 17592186044416 then (ontimeref19_At.l0 k1 a1 a2 (x7_1 ++ [x8_1]) (wrap64 (x8_1 + 1)) a0_0 a0_1 l0_2 l0_3) else (none)) else (ontimeref19_At.l0 k1 a1 a2 x7_1 (wrap64 (x8_1 + 1)) a0_0 a0_1 l0_2 l0_3)) = some r := H
                have A32 := Aside0.mk A320
                clear A320
                by_cases c33 : t347 = true
                · subst c33
                  have H1 : (if x7_1.length < 17592186044416 then (ontimeref19_At.l0 k1 a1 a2 (x7_1 ++ [x8_1]) (wrap64 (x8_1 + 1)) a0_0 a0_1 l0_2 l0_3) else (none)) = some r := by rw [if_pos rfl] at H; exact H
                  clear H
                  have H := H1
                  clear H1
                  by_cases c34 : x7_1.length < 17592186044416
                  · rw [if_pos c34] at H
                    have LMc34 := Aside0.mk c34
                    clear c34
                    obtain ⟨y348, hy348⟩ : ∃ y_ : List Int, y_ = (x7_1 ++ [x8_1]) := ⟨_, rfl⟩
                    replace H : (ontimeref19_At.l0 k1 a1 a2 y348 (wrap64 (x8_1 + 1)) a0_0 a0_1 l0_2 l0_3) = some r := by first | (rw [hy348]; with_reducible exact H) | (have H2_ := (Option.bind_some _ _).symm.trans H; rw [hy348]; with_reducible exact H2_) | (have H2_ := (Option.bind_some _ _).symm.trans H; with_reducible exact H2_) | with_reducible exact H | (rw [hy348]; exact H) | exact H
                    have Ny348 := Aside0.mk hy348
                    clear hy348
                    have H' := Aside0.mk H
                    clear H
                    have hcz35_0 : wr.cell? ⟨gb335, 0, none⟩ = some (.string a0_0) := (blk_cell BK335.out 0).trans rfl
                    have hcz35_1 : wr.cell? ⟨gb335, 1, none⟩ = some (.int .i64 a0_1) := (blk_cell BK335.out 1).trans rfl
                    have hcz35_2 : wr.cell? ⟨gb335, 2, none⟩ = some (.slice A0_2 l0_2.length c0_2) := (blk_cell BK335.out 2).trans rfl
                    have hcz35_3 : wr.cell? ⟨gb335, 3, none⟩ = some (.slice A0_3 l0_3.length c0_3) := (blk_cell BK335.out 3).trans rfl
                    have hfz35_0 := blk_frozen BK335.out 0
                    have hfz35_1 := blk_frozen BK335.out 1
                    have hfz35_2 := blk_frozen BK335.out 2
                    have hfz35_3 := blk_frozen BK335.out 3
                    have p336 : 0 ≤ (a1 : Int) := of_decide_eq_true (by first | (with_reducible assumption) | assumption)
                    have q336 : a1 < (l0_3.length : Int) := of_decide_eq_true (by first | (with_reducible assumption) | assumption)
                    obtain ⟨ad336, A336_0, c336_0, e336, hx336_0, hx336_1, hx336_2, hx336_3, hx336_4, hl336_0, hi336_0⟩ := at_T79 HR0_3.out a1 p336 q336
                    cases e336
                    replace hx336_0 := (HB.out.cell (World.block_lt_of_cell? w _ hx336_0)).trans hx336_0
                    replace hx336_1 := (HB.out.cell (World.block_lt_of_cell? w _ hx336_1)).trans hx336_1
                    replace hx336_2 := (HB.out.cell (World.block_lt_of_cell? w _ hx336_2)).trans hx336_2
                    replace hx336_3 := (HB.out.cell (World.block_lt_of_cell? w _ hx336_3)).trans hx336_3
                    replace hx336_4 := (HB.out.cell (World.block_lt_of_cell? w _ hx336_4)).trans hx336_4
                    have HR336_0 := Aside0.mk hi336_0
                    have HC336_0 := Aside0.mk hl336_0
                    clear hi336_0 hl336_0
                    replace p336 := eq_true p336
                    replace q336 := eq_true q336
                    have p346 : 0 ≤ (a1 : Int) := of_decide_eq_true (by first | (with_reducible assumption) | assumption)
                    have q346 : a1 < (l0_3.length : Int) := of_decide_eq_true (by first | (with_reducible assumption) | assumption)
                    obtain ⟨ad346, A346_0, c346_0, e346, hx346_0, hx346_1, hx346_2, hx346_3, hx346_4, hl346_0, hi346_0⟩ := at_T79 HR0_3.out a1 p346 q346
                    obtain rfl : ad336 = ad346 := (by injection e346)
                    replace hx346_0 := (HB.out.cell (World.block_lt_of_cell? w _ hx346_0)).trans hx346_0
                    replace hx346_1 := (HB.out.cell (World.block_lt_of_cell? w _ hx346_1)).trans hx346_1
                    replace hx346_2 := (HB.out.cell (World.block_lt_of_cell? w _ hx346_2)).trans hx346_2
                    replace hx346_3 := (HB.out.cell (World.block_lt_of_cell? w _ hx346_3)).trans hx346_3
                    replace hx346_4 := (HB.out.cell (World.block_lt_of_cell? w _ hx346_4)).trans hx346_4
                    have HR346_0 := Aside0.mk hi346_0
                    have HC346_0 := Aside0.mk hl346_0
                    clear hi346_0 hl346_0
                    replace p346 := eq_true p346
                    replace q346 := eq_true q346
                    have ea_ := Option.some.inj (hx336_0.symm.trans hx346_0)
                    injection ea_ with ea_ en_ ec_
                    subst ea_
                    subst ec_
                    clear en_
                    go_wp2_with (first | (go_at_call 46; (with_reducible refine (ontimeref19_Live.calls k1 a0_0 a0_1 _ _ l0_2 _ _ l0_3 a1 a2 x8_1 true _ ?side1 ?side2 ?side3 ?side4 A32.out).mono ?_); (case side1 => repeat (first | exact (Kd.C_below HR0_2.out HB.out) | (with_reducible refine Kd.C_alloc ?_ _) | (with_reducible refine Kd.C_drewN ?_ _) | (with_reducible refine Kd.C_drew ?_))); (case side2 => exact HC0_2.out); (case side3 => repeat (first | exact (Kd.C_below HR0_3.out HB.out) | (with_reducible refine Kd.C_alloc ?_ _) | (with_reducible refine Kd.C_drewN ?_ _) | (with_reducible refine Kd.C_drew ?_))); (case side4 => exact HC0_3.out); rintro e w36 ⟨rfl, hb⟩; have n0_ := Aside0.mk (Kd.R_below (by (with_reducible repeat (first | apply Kd.R_alloc | apply Kd.R_drewN | apply Kd.R_drew)); exact HO_7.out) hb); have n1_ := Aside0.mk (blk_below (g := gb335) (o := .cells #[.string a0_0, .int .i64 a0_1, .slice A0_2 l0_2.length c0_2, .slice (some ad336) l0_3.length c0_3] 36 (0, 0)) (by (with_reducible repeat (first | refine blk_drewN ?_ _ | refine blk_drew ?_ | refine blk_alloc ?_ _)); exact BK335.out) hb); have n2_ := Aside0.mk (below_step (by repeat (first | (with_reducible first | exact HB.out | apply below_alloc | apply pw_below_drewN | apply below_drew1 | refine below_set ?_ GE335.out) | exact HB.out)) hb); clear HO_7; clear BK335; clear HB; have HO_7 := n0_; have BK335 := n1_; have HB := n2_; clear n0_ n1_ n2_; (try clear hb); (try clear hb2); (try clear hk); (try clear hi)) | ((with_reducible refine gate_builtin (b := .append) (xs := #[.tmp 48, .tmp 50]) rfl ?_); (try (refine gate_guard (by rfl) ?_; dsimp only)); at_builtin; refine Kd.R_append (Kd.int .i64) (w0 := w) w.heap.size rfl (.tmp 48) (.tmp 50) 39 3 (.int .i64 0) 8 rfl Try.underlying39 info3 rfl (by decide) (by omega) u7 x7_1 x8_1 [.int .i64 x8_1] (fun _ => True) (fun _ => False) rfl rfl ?aP (fun _ hk => hk.elim) ?aF ?aO ?aB ?aS ?aL ?_; (case aP => exact rfl); (case aB => exact (by repeat (first | (with_reducible first | exact HB.out | apply below_alloc | apply pw_below_drewN | apply below_drew1 | refine below_set ?_ GE335.out) | exact HB.out))); (case aF => exact (fun _ _ => trivial)); (case aO => exact (by (with_reducible repeat (first | apply Kd.R_alloc | apply Kd.R_drewN | apply Kd.R_drew)); exact HO_7.out)); (case aS => exact (below_size (by repeat (first | (with_reducible first | exact HB.out | apply below_alloc | apply pw_below_drewN | apply below_drew1 | refine below_set ?_ GE335.out) | exact HB.out)))); (case aL => have := LMc34.out; omega); intro v349 w37 ho hb hg hat; rw [← Ny348.out] at ho; have n0_ := Aside0.mk (blk_grown (g := gb335) (o := .cells #[.string a0_0, .int .i64 a0_1, .slice A0_2 l0_2.length c0_2, .slice (some ad336) l0_3.length c0_3] 36 (0, 0)) (by (with_reducible repeat (first | refine blk_drewN ?_ _ | refine blk_drew ?_ | refine blk_alloc ?_ _)); exact BK335.out) hg (Kd.R_ne HO_7.out BK335.out (by decide))); have n1_ := Aside0.mk (hb); have n2_ := Aside0.mk (ho); clear BK335; clear HB; clear HO_7; have BK335 := n0_; have HB := n1_; have HO350 := n2_; clear n0_ n1_ n2_; clear ho hb hg hat))
                    go_roundg k1
                    case measure => have := HK1.out; omega
                    case rel => exact ⟨(y348), (wrap64 (x8_1 + 1)), (by first | rfl | (simp; done) | (simp [*]; done)), H', ⟨by have := HK1.out; omega⟩, ⟨by (with_reducible repeat (first | apply Kd.R_alloc | apply Kd.R_drewN | apply Kd.R_drew)); exact HO350.out⟩, ⟨by (with_reducible repeat (first | refine blk_drewN ?_ _ | refine blk_drew ?_ | refine blk_alloc ?_ _)); exact BK335.out⟩, ⟨by repeat (first | (with_reducible first | exact HB.out | apply below_alloc | apply pw_below_drewN | apply below_drew1 | refine below_set ?_ GE335.out) | exact HB.out)⟩⟩
                  · rw [if_neg c34] at H
                    exact absurd H (by simp)
                · replace c33 := Bool.eq_false_iff.mpr c33
                  subst c33
                  have H1 : (ontimeref19_At.l0 k1 a1 a2 x7_1 (wrap64 (x8_1 + 1)) a0_0 a0_1 l0_2 l0_3) = some r := by rw [if_neg (show ¬ (false = true) by decide)] at H; exact H
                  clear H
                  have H := H1
                  clear H1
                  have H' := Aside0.mk H
                  clear H
                  have hcz38_0 : wr.cell? ⟨gb335, 0, none⟩ = some (.string a0_0) := (blk_cell BK335.out 0).trans rfl
                  have hcz38_1 : wr.cell? ⟨gb335, 1, none⟩ = some (.int .i64 a0_1) := (blk_cell BK335.out 1).trans rfl
                  have hcz38_2 : wr.cell? ⟨gb335, 2, none⟩ = some (.slice A0_2 l0_2.length c0_2) := (blk_cell BK335.out 2).trans rfl
                  have hcz38_3 : wr.cell? ⟨gb335, 3, none⟩ = some (.slice A0_3 l0_3.length c0_3) := (blk_cell BK335.out 3).trans rfl
                  have hfz38_0 := blk_frozen BK335.out 0
                  have hfz38_1 := blk_frozen BK335.out 1
                  have hfz38_2 := blk_frozen BK335.out 2
                  have hfz38_3 := blk_frozen BK335.out 3
                  have p336 : 0 ≤ (a1 : Int) := of_decide_eq_true (by first | (with_reducible assumption) | assumption)
                  have q336 : a1 < (l0_3.length : Int) := of_decide_eq_true (by first | (with_reducible assumption) | assumption)
                  obtain ⟨ad336, A336_0, c336_0, e336, hx336_0, hx336_1, hx336_2, hx336_3, hx336_4, hl336_0, hi336_0⟩ := at_T79 HR0_3.out a1 p336 q336
                  cases e336
                  replace hx336_0 := (HB.out.cell (World.block_lt_of_cell? w _ hx336_0)).trans hx336_0
                  replace hx336_1 := (HB.out.cell (World.block_lt_of_cell? w _ hx336_1)).trans hx336_1
                  replace hx336_2 := (HB.out.cell (World.block_lt_of_cell? w _ hx336_2)).trans hx336_2
                  replace hx336_3 := (HB.out.cell (World.block_lt_of_cell? w _ hx336_3)).trans hx336_3
                  replace hx336_4 := (HB.out.cell (World.block_lt_of_cell? w _ hx336_4)).trans hx336_4
                  have HR336_0 := Aside0.mk hi336_0
                  have HC336_0 := Aside0.mk hl336_0
                  clear hi336_0 hl336_0
                  replace p336 := eq_true p336
                  replace q336 := eq_true q336
                  have p346 : 0 ≤ (a1 : Int) := of_decide_eq_true (by first | (with_reducible assumption) | assumption)
                  have q346 : a1 < (l0_3.length : Int) := of_decide_eq_true (by first | (with_reducible assumption) | assumption)
                  obtain ⟨ad346, A346_0, c346_0, e346, hx346_0, hx346_1, hx346_2, hx346_3, hx346_4, hl346_0, hi346_0⟩ := at_T79 HR0_3.out a1 p346 q346
                  obtain rfl : ad336 = ad346 := (by injection e346)
                  replace hx346_0 := (HB.out.cell (World.block_lt_of_cell? w _ hx346_0)).trans hx346_0
                  replace hx346_1 := (HB.out.cell (World.block_lt_of_cell? w _ hx346_1)).trans hx346_1
                  replace hx346_2 := (HB.out.cell (World.block_lt_of_cell? w _ hx346_2)).trans hx346_2
                  replace hx346_3 := (HB.out.cell (World.block_lt_of_cell? w _ hx346_3)).trans hx346_3
                  replace hx346_4 := (HB.out.cell (World.block_lt_of_cell? w _ hx346_4)).trans hx346_4
                  have HR346_0 := Aside0.mk hi346_0
                  have HC346_0 := Aside0.mk hl346_0
                  clear hi346_0 hl346_0
                  replace p346 := eq_true p346
                  replace q346 := eq_true q346
                  have ea_ := Option.some.inj (hx336_0.symm.trans hx346_0)
                  injection ea_ with ea_ en_ ec_
                  subst ea_
                  subst ec_
                  clear en_
                  go_wp2_with (first | (go_at_call 46; (with_reducible refine (ontimeref19_Live.calls k1 a0_0 a0_1 _ _ l0_2 _ _ l0_3 a1 a2 x8_1 false _ ?side1 ?side2 ?side3 ?side4 A32.out).mono ?_); (case side1 => repeat (first | exact (Kd.C_below HR0_2.out HB.out) | (with_reducible refine Kd.C_alloc ?_ _) | (with_reducible refine Kd.C_drewN ?_ _) | (with_reducible refine Kd.C_drew ?_))); (case side2 => exact HC0_2.out); (case side3 => repeat (first | exact (Kd.C_below HR0_3.out HB.out) | (with_reducible refine Kd.C_alloc ?_ _) | (with_reducible refine Kd.C_drewN ?_ _) | (with_reducible refine Kd.C_drew ?_))); (case side4 => exact HC0_3.out); rintro e w39 ⟨rfl, hb⟩; have n0_ := Aside0.mk (Kd.R_below (by (with_reducible repeat (first | apply Kd.R_alloc | apply Kd.R_drewN | apply Kd.R_drew)); exact HO_7.out) hb); have n1_ := Aside0.mk (blk_below (g := gb335) (o := .cells #[.string a0_0, .int .i64 a0_1, .slice A0_2 l0_2.length c0_2, .slice (some ad336) l0_3.length c0_3] 36 (0, 0)) (by (with_reducible repeat (first | refine blk_drewN ?_ _ | refine blk_drew ?_ | refine blk_alloc ?_ _)); exact BK335.out) hb); have n2_ := Aside0.mk (below_step (by repeat (first | (with_reducible first | exact HB.out | apply below_alloc | apply pw_below_drewN | apply below_drew1 | refine below_set ?_ GE335.out) | exact HB.out)) hb); clear HO_7; clear BK335; clear HB; have HO_7 := n0_; have BK335 := n1_; have HB := n2_; clear n0_ n1_ n2_; (try clear hb); (try clear hb2); (try clear hk); (try clear hi)))
                  go_roundg k1
                  case measure => have := HK1.out; omega
                  case rel => exact ⟨(x7_1), (wrap64 (x8_1 + 1)), (by first | rfl | (simp; done) | (simp [*]; done)), H', ⟨by have := HK1.out; omega⟩, ⟨by (with_reducible repeat (first | apply Kd.R_alloc | apply Kd.R_drewN | apply Kd.R_drew)); exact HO_7.out⟩, ⟨by (with_reducible repeat (first | refine blk_drewN ?_ _ | refine blk_drew ?_ | refine blk_alloc ?_ _)); exact BK335.out⟩, ⟨by repeat (first | (with_reducible first | exact HB.out | apply below_alloc | apply pw_below_drewN | apply below_drew1 | refine below_set ?_ GE335.out) | exact HB.out)⟩⟩
              · rw [if_neg c31] at H
                have c31b0 : decide (a2 ≤ (((rd_T79 l0_3 a1).f0).length : Int)) = false := decide_eq_false c31
                clear c31
                have H' := Aside0.mk H
                clear H
                have hcz40_0 : wr.cell? ⟨gb335, 0, none⟩ = some (.string a0_0) := (blk_cell BK335.out 0).trans rfl
                have hcz40_1 : wr.cell? ⟨gb335, 1, none⟩ = some (.int .i64 a0_1) := (blk_cell BK335.out 1).trans rfl
                have hcz40_2 : wr.cell? ⟨gb335, 2, none⟩ = some (.slice A0_2 l0_2.length c0_2) := (blk_cell BK335.out 2).trans rfl
                have hcz40_3 : wr.cell? ⟨gb335, 3, none⟩ = some (.slice A0_3 l0_3.length c0_3) := (blk_cell BK335.out 3).trans rfl
                have hfz40_0 := blk_frozen BK335.out 0
                have hfz40_1 := blk_frozen BK335.out 1
                have hfz40_2 := blk_frozen BK335.out 2
                have hfz40_3 := blk_frozen BK335.out 3
                have p336 : 0 ≤ (a1 : Int) := of_decide_eq_true (by first | (with_reducible assumption) | assumption)
                have q336 : a1 < (l0_3.length : Int) := of_decide_eq_true (by first | (with_reducible assumption) | assumption)
                obtain ⟨ad336, A336_0, c336_0, e336, hx336_0, hx336_1, hx336_2, hx336_3, hx336_4, hl336_0, hi336_0⟩ := at_T79 HR0_3.out a1 p336 q336
                cases e336
                replace hx336_0 := (HB.out.cell (World.block_lt_of_cell? w _ hx336_0)).trans hx336_0
                replace hx336_1 := (HB.out.cell (World.block_lt_of_cell? w _ hx336_1)).trans hx336_1
                replace hx336_2 := (HB.out.cell (World.block_lt_of_cell? w _ hx336_2)).trans hx336_2
                replace hx336_3 := (HB.out.cell (World.block_lt_of_cell? w _ hx336_3)).trans hx336_3
                replace hx336_4 := (HB.out.cell (World.block_lt_of_cell? w _ hx336_4)).trans hx336_4
                have HR336_0 := Aside0.mk hi336_0
                have HC336_0 := Aside0.mk hl336_0
                clear hi336_0 hl336_0
                replace p336 := eq_true p336
                replace q336 := eq_true q336
                have p346 : 0 ≤ (a1 : Int) := of_decide_eq_true (by first | (with_reducible assumption) | assumption)
                have q346 : a1 < (l0_3.length : Int) := of_decide_eq_true (by first | (with_reducible assumption) | assumption)
                obtain ⟨ad346, A346_0, c346_0, e346, hx346_0, hx346_1, hx346_2, hx346_3, hx346_4, hl346_0, hi346_0⟩ := at_T79 HR0_3.out a1 p346 q346
                obtain rfl : ad336 = ad346 := (by injection e346)
                replace hx346_0 := (HB.out.cell (World.block_lt_of_cell? w _ hx346_0)).trans hx346_0
                replace hx346_1 := (HB.out.cell (World.block_lt_of_cell? w _ hx346_1)).trans hx346_1
                replace hx346_2 := (HB.out.cell (World.block_lt_of_cell? w _ hx346_2)).trans hx346_2
                replace hx346_3 := (HB.out.cell (World.block_lt_of_cell? w _ hx346_3)).trans hx346_3
                replace hx346_4 := (HB.out.cell (World.block_lt_of_cell? w _ hx346_4)).trans hx346_4
                have HR346_0 := Aside0.mk hi346_0
                have HC346_0 := Aside0.mk hl346_0
                clear hi346_0 hl346_0
                replace p346 := eq_true p346
                replace q346 := eq_true q346
                have ea_ := Option.some.inj (hx336_0.symm.trans hx346_0)
                injection ea_ with ea_ en_ ec_
                subst ea_
                subst ec_
                clear en_
                go_wp2
                go_roundg k1
                case measure => have := HK1.out; omega
                case rel => exact ⟨(x7_1), (wrap64 (x8_1 + 1)), (by first | rfl | (simp; done) | (simp [*]; done)), H', ⟨by have := HK1.out; omega⟩, ⟨by (with_reducible repeat (first | apply Kd.R_alloc | apply Kd.R_drewN | apply Kd.R_drew)); exact HO_7.out⟩, ⟨by (with_reducible repeat (first | refine blk_drewN ?_ _ | refine blk_drew ?_ | refine blk_alloc ?_ _)); exact BK335.out⟩, ⟨by repeat (first | (with_reducible first | exact HB.out | apply below_alloc | apply pw_below_drewN | apply below_drew1 | refine below_set ?_ GE335.out) | exact HB.out)⟩⟩
          · rw [if_neg c7] at H
            exact absurd H (by simp)
        · rw [if_neg c6] at H
          exact absurd H (by simp)
      · rw [if_neg c5] at H
        have c5b0 : decide (x8_1 < a0_1) = false := decide_eq_false c5
        clear c5
        obtain rfl := Option.some.inj H
        have hcz41_0 : wr.cell? ⟨gb335, 0, none⟩ = some (.string a0_0) := (blk_cell BK335.out 0).trans rfl
        have hcz41_1 : wr.cell? ⟨gb335, 1, none⟩ = some (.int .i64 a0_1) := (blk_cell BK335.out 1).trans rfl
        have hcz41_2 : wr.cell? ⟨gb335, 2, none⟩ = some (.slice A0_2 l0_2.length c0_2) := (blk_cell BK335.out 2).trans rfl
        have hcz41_3 : wr.cell? ⟨gb335, 3, none⟩ = some (.slice A0_3 l0_3.length c0_3) := (blk_cell BK335.out 3).trans rfl
        have hfz41_0 := blk_frozen BK335.out 0
        have hfz41_1 := blk_frozen BK335.out 1
        have hfz41_2 := blk_frozen BK335.out 2
        have hfz41_3 := blk_frozen BK335.out 3
        go_wp2
        go_ret
        exact ⟨_, by first | rfl | (simp [errW_none, errW_some] <;> rfl) | (simp [*, errW_none, errW_some] <;> rfl), by (with_reducible repeat (first | apply Kd.R_alloc | apply Kd.R_drewN | apply Kd.R_drew)); exact HO_7.out, by repeat (first | (with_reducible first | exact HB.out | apply below_alloc | apply pw_below_drewN | apply below_drew1 | refine below_set ?_ GE335.out) | exact HB.out)⟩
end Go.Proofs.Ythgodpmahdnnjaa.H
end
