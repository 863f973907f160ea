/- regalloc.Color, walked: it returns the colours of the law of colouring, in new memory. -/
import Derived.Test.YtefkkgldlijbbaaColorW
namespace Go.Proofs.Ytefkkgldlijbbaa
open Go.RowKit Go.Maps Go.Proofs.YtefkkgldlijbbaaW.PrintWords Go.Proofs.YtefkkgldlijbbaaW.PrintMore
attribute [local go_sem] max2_int max_two

set_option maxHeartbeats 4000000 in
set_option maxRecDepth 100000 in
theorem color_calls (A0 : Option Addr) (c0 : Nat) (E : List (List Int)) (a1 : Int) (w : World) (hE : Kd.C (Kd.slice 3 (Kd.int .i64)) w A0 E.length E) (hc0 : E.length ≤ c0) (hn : E.length ≤ 1000) (hl : ∀ l ∈ E, l.length ≤ 1500) (ha1 : a1 ≤ 9223372036854775807) :
    Calls Try.prog 10 #[.slice A0 E.length c0, .int .i64 a1] w fun e w' => ∃ v, e = .returned v ∧ Kd.R (Kd.int .i64) 3 w' w.heap.size (fun _ => True) v (colorE E a1) ∧ Below w.heap.size w w' := by
  have hinfo3 : (Try.prog.info? 3).map (fun i => (i.zero, i.size, i.bytes)) = some (some (.int .i64 0), 1, 8) := by kernel_rfl
  have hmk := run_make_row' (P := Try.prog) 26 3 (.int .i64 0) 8 Try.underlying26 hinfo3 rfl .i64 .i64 E.length (by omega) (by omega)
  rw [rowF_made] at hmk
  clear hinfo3
  have HE := Lib.hid hE
  have HL := Lib.hid hl
  clear hE hl
  obtain ⟨cN, hcN⟩ : ∃ cN : Nat, (if a1 < 0 then 0 else a1) = (cN : Int) := ⟨(if a1 < 0 then 0 else a1).toNat, by split <;> omega⟩
  have hcE : a1.toNat = cN := by split at hcN <;> omega
  have hcB : cN ≤ 9223372036854775807 := by omega
  have HC := Lib.hid hcE
  clear hcE
  go_enter Try.func10, Try.ntmps10
  go_wp2_with (first | (go_at_call 13; refine (neigh_calls A0 c0 E _ HE.out hc0 hn HL.out).mono ?_; rintro e w1 ⟨rfl, hrow, hsz, hsets, hbel⟩; have HG := Lib.hid (show Graph w1 w.heap.size E.length 4000000 (allS E E.length) from ⟨hrow, hsets, fun a ha x h => allS_inside E a ha x h, fun a b ha hb => by rw [allS_adj E a b ha hb, allS_adj E b a hb ha, adjE_symm], fun a ha => by rw [allS_adj E a a ha ha, adjE_irr]⟩); have HSZ := Lib.hid hsz; clear hrow hsets hsz) | fail)
  clear hmk
  go_loopw [23] (fun v wr => ∃ k : Nat, k ≤ E.length ∧ v = .int .i64 k ∧ wr.heap[w1.heap.size]? = some (.cells (rowF (fun a => if a < k then .int .i64 (-1) else .int .i64 0) E.length) 3 (0, 0)) ∧ Below w1.heap.size w1 wr) (fun v _ => E.length - (intOf v).toNat)
  case atStart =>
    refine ⟨0, Nat.zero_le _, rfl, ?_, (Below.refl _ _).alloc (Nat.le_refl _) _⟩
    exact (MapKept.heap_alloc w1 _).1
  case round =>
    obtain ⟨k, hk, rfl, hr, hb⟩ := hrel
    by_cases hlt : k < E.length
    · obtain ⟨hc1, hf1⟩ := cell_of_row hr (rowF_get (f := fun a => if a < k then Value.int .i64 (-1) else .int .i64 0) hlt)
      have R : (wr.setCell ⟨w1.heap.size, k, none⟩ (.int .i64 (-1))).heap[w1.heap.size]? = some (.cells (rowF (fun a => if a < k + 1 then .int .i64 (-1) else .int .i64 0) E.length) 3 (0, 0)) := by
        rw [heap_set_row _ hr]
        congr 2
        refine rowF_congr (fun i _ => ?_)
        by_cases e : i = k
        · subst e; simp
        · by_cases h1 : i < k
          · rw [if_neg e, if_pos h1, if_pos (by omega)]
          · rw [if_neg e, if_neg h1, if_neg (by omega)]
      have HR := Lib.hid R
      have HB : Hid (Below w1.heap.size w1 (wr.setCell ⟨w1.heap.size, k, none⟩ (.int .i64 (-1)))) := Lib.hid (hb.setCell (p := ⟨w1.heap.size, k, none⟩) (Nat.le_refl _) _)
      clear hr hb R
      go_wp2
      go_roundw
      case rel => exact ⟨k + 1, by omega, by go_num, HR.out, HB.out⟩
      case measure => simp [intOf]; omega
    · have e : k = E.length := by omega
      subst e
      have hr0 : wr.heap[w1.heap.size]? = some (.cells (rowF (fun _ => .int .i64 (-1)) E.length) 3 (0, 0)) := by
        rw [hr]; congr 2; exact rowF_congr (fun i hi => by rw [if_pos hi])
      have hlt1 : w.heap.size + 1 + E.length = w1.heap.size := HSZ.out.symm
      have hG2 : Graph wr w.heap.size E.length 4000000 (allS E E.length) := HG.out.below hb
      have hsz2 : w1.heap.size < wr.heap.size := (Array.getElem?_eq_some_iff.1 hr0).1
      have hb2 : Below w.heap.size w wr := hbel.trans (hb.mono (by omega))
      have HG2 := Lib.hid hG2
      have HR2 := Lib.hid hr0
      have HB2 := Lib.hid hb2
      have HLT := Lib.hid hlt1
      clear hr hr0 hG2 hb2 hb hbel HG hk hlt hlt1 HSZ
      obtain ⟨w2, hw2⟩ : ∃ w2, w2 = wr := ⟨_, rfl⟩
      rw [← hw2] at HG2 HR2 HB2 hsz2 ⊢
      clear hw2 wr
      go_wp2_with (first
        | (go_at_call 14; refine (remove_calls w.heap.size E.length 4000000 (allS E E.length) cN _ HG2.out hn (by omega) (by omega)).mono ?_; rintro e w3 ⟨v, rfl, hown, hb3⟩; obtain ⟨A, cp, rfl⟩ := own_slice hown; have HO := Lib.hid hown; clear hown)
        | (go_at_call 15; refine (reverse_calls _ E.length (.slice A E.length cp) _ _ HO.out (by rw [List.length_map, ColorLaw.order_len]) (by omega)).mono ?_; rintro e w4 ⟨rfl, hown4, hg4⟩; have HO4 := Lib.hid hown4; clear hown4) | fail)
      have hCS : CS w w4 w.heap.size E.length w1.heap.size (allS E E.length) (fun _ => -1) (.slice A E.length cp) (ColorLaw.order E.length (adjN (allS E E.length)) cN E.length).reverse := by
        have hs3 := hb3.size
        have hb4 : Below w2.heap.size w2 w4 := hb3.grown hg4 hs3 (own_base HO.out)
        refine ⟨HG2.out.below hb4, (hb4.block _ hsz2).trans HR2.out, ?_, HB2.out.trans (hb4.mono (by have := HB2.out.size; omega))⟩
        have h := own_weaken HO4.out (show w1.heap.size + 1 ≤ w2.heap.size by omega)
        rw [List.map_reverse]
        exact h
      obtain ⟨l, hl⟩ : ∃ l, l = (ColorLaw.order E.length (adjN (allS E E.length)) cN E.length).reverse := ⟨_, rfl⟩
      rw [← hl] at hCS
      have hll : l.length = E.length := by rw [hl, List.length_reverse, ColorLaw.order_len]
      have hlin : ∀ a ∈ l, a < E.length := by
        rw [hl]; intro a ha; exact (ColorLaw.order_ok E.length _ _ E.length (Nat.le_refl _)).2 a (List.mem_reverse.1 ha)
      have HLL := Lib.hid hll
      have HLI := Lib.hid hlin
      have HLE := Lib.hid hl
      clear hl hll hlin HG2 HR2 HB2 hb3 hg4 HO HO4
      obtain ⟨ob, hob⟩ : ∃ ob, ob = w1.heap.size := ⟨_, rfl⟩
      have hgo : w.heap.size + E.length < ob := by have := HLT.out; omega
      have hwo : w.heap.size ≤ ob := by omega
      rw [← hob] at hCS hsz2 ⊢
      have HCS := Lib.hid hCS
      clear hCS HLT hob hsz2
      obtain ⟨o0, ho0⟩ : ∃ o0, o0 = List.replicate E.length (-1 : Int) := ⟨_, rfl⟩
      have HO0 := Lib.hid ho0
      clear ho0
      go_wp2_with fail
      go_loopw [37] (fun v wr => ∃ k : Nat, k ≤ E.length ∧ v = .int .i64 k ∧ CS w wr w.heap.size E.length ob (allS E E.length) (oF (ColorLaw.colors E.length (adjN (allS E E.length)) cN (l.take k) o0)) (.slice A E.length cp) l) (fun v _ => E.length - (intOf v).toNat)
      case atStart =>
        refine ⟨0, Nat.zero_le _, rfl, ?_⟩
        have h := HCS.out
        refine ⟨h.graph, h.row.trans ?_, h.ord, h.below⟩
        congr 2
        refine rowF_congr (fun a ha => ?_)
        show Value.int .i64 (-1) = .int .i64 (o0.getD a (-1))
        rw [HO0.out, List.getD_eq_getElem?_getD, List.getElem?_replicate, if_pos ha]; rfl
      case round =>
        clear HCS
        obtain ⟨k, hk, rfl, hCS⟩ := hrel
        by_cases hlt : k < E.length
        · obtain ⟨gv, cap, hv, hgv, _⟩ := hCS.ord.form (by omega)
          injection hv with hA _ hcp
          subst hA hcp
          obtain ⟨hcv, _⟩ := own_at hCS.ord (k : Int) (by omega) (by omega)
          obtain ⟨i, hi⟩ : ∃ i, i = l.getD k 0 := ⟨_, rfl⟩
          have hri : rd (l.map fun a : Nat => (a : Int)) (k : Int) = (i : Int) := by
            unfold rd
            rw [Int.toNat_natCast, hi, List.getD_eq_getElem?_getD, List.getD_eq_getElem?_getD, List.getElem?_map]
            cases l[k]? <;> rfl
          rw [hri, Int.toNat_natCast] at hcv
          have hil : i < E.length := by
            have := HLI.out (l.getD k 0) (by
              rw [List.getD_eq_getElem?_getD, List.getElem?_eq_getElem (by rw [HLL.out]; omega)]; simp)
            omega
          obtain ⟨o, ho⟩ : ∃ o, o = ColorLaw.colors E.length (adjN (allS E E.length)) cN (l.take k) o0 := ⟨_, rfl⟩
          rw [← ho] at hCS
          have hstep : ColorLaw.colors E.length (adjN (allS E E.length)) cN (l.take (k + 1)) o0 = ColorLaw.colorStep E.length (adjN (allS E E.length)) cN o i := by
            rw [colors_take (by rw [HLL.out]; exact hlt), ← ho, ← hi]
          have hol : o.length = E.length := by rw [ho, ColorLaw.colors_len, HO0.out, List.length_replicate]
          have HST := Lib.hid hstep
          have HOL := Lib.hid hol
          have HCS := Lib.hid hCS
          clear hCS hstep hol ho hi hri
          go_upto_block 3 with (fail)
          go_cut [10] (fun _ wc => CS w wc w.heap.size E.length ob (allS E E.length) (oF (ColorLaw.colorStep E.length (adjN (allS E E.length)) cN o i)) (.slice (some ⟨gv, 0, none⟩) E.length cp) l)
          case first =>
            go_wp2
            go_loopw [42] (fun v wr => ∃ q : Nat, q ≤ cN ∧ v = .int .i64 q ∧ CS w wr w.heap.size E.length ob (allS E E.length) (oF o) (.slice (some ⟨gv, 0, none⟩) E.length cp) l ∧ ∀ p, p < q → ColorLaw.free E.length (adjN (allS E E.length)) o i p = false) (fun v _ => cN - (intOf v).toNat)
            case atStart => exact ⟨0, Nat.zero_le _, rfl, HCS.out, fun p hp => absurd hp (Nat.not_lt_zero _)⟩
            case round =>
              obtain ⟨q, hq, rfl, hCS, hfr⟩ := hrel
              by_cases hql : q < cN
              · have hmc := hCS.graph.cell hil
                have hset := hCS.graph.sets i hil
                have HFR := Lib.hid hfr
                have HCS1 := Lib.hid hCS
                clear hfr hCS
                go_wp2_with (first | (at_range; refine wpList_range_set _ rfl _ rfl _ 4000000 (allS E E.length i) rfl hset ?_; intro w5 left0 cnt0 hrg0 hl0 hg0 hs0) | fail)
                go_frame
                have hCS5 : CS w w5 w.heap.size E.length ob (allS E E.length) (oF o) (.slice (some ⟨gv, 0, none⟩) E.length cp) l := HCS1.out.grown hgo hwo hg0 (fun k h => by cases h) (.inr (by simp [Value.ownBlock]))
                have HR1 : Hid (ob < wr.heap.size) := Lib.hid (Array.getElem?_eq_some_iff.1 HCS1.out.row).1
                have HR2 : Hid (gv < wr.heap.size) := Lib.hid (own_lt HCS1.out.ord gv (by simp [Value.ownBlock]))
                have HL0 := Lib.hid hl0
                have HIN := Lib.hid (fun x => HCS1.out.graph.inside i hil x)
                obtain ⟨r, hr⟩ : ∃ r, r = wr.heap.size := ⟨_, rfl⟩
                rw [← hr] at hrg0 HR1 HR2 ⊢
                clear hr hl0 hg0 hs0 hmc hset
                go_loopw [12] (fun tv wx => ∃ (left : Int → Bool) (cnt : Nat), tv = .bool (takenB E.length (allS E E.length i) left (oF o) q) ∧ Ranging wx (w.heap.size + 1 + i) r (allS E E.length i) left cnt ∧ CS w wx w.heap.size E.length ob (allS E E.length) (oF o) (.slice (some ⟨gv, 0, none⟩) E.length cp) l)
                  (fun _ wx => wx.rangeLeft (w.heap.size + 1 + i) r)
                case atStart => exact ⟨left0, cnt0, by rw [takenB_start hn HL0.out], hrg0, hCS5⟩
                case round =>
                  clear hCS5 hrg0 HL0 HCS1
                  obtain ⟨left, cnt, rfl, hrg, hCS⟩ := hrel
                  have HCS := Lib.hid hCS
                  clear hCS
                  go_wp2_with (first | (at_next; refine wpList_next_set _ rfl _ rfl (w.heap.size + 1 + i) r (allS E E.length i) left cnt rfl hrg ?_ ?_) | fail)
                  · intro hl0
                    have hdn := takenB_done (n := E.length) (i := i) (q := q) (S := allS E E.length) (o := o) hn hl0
                    clear hl0 hrg
                    obtain ⟨tb, htb⟩ : ∃ tb, tb = takenB E.length (allS E E.length i) left (oF o) q := ⟨_, rfl⟩
                    rw [← htb] at hdn ⊢
                    clear htb
                    by_cases hfree : ColorLaw.free E.length (adjN (allS E E.length)) o i q = true
                    · rw [hfree] at hdn
                      obtain rfl : tb = false := hdn
                      obtain ⟨hc1, hf1⟩ := cell_of_row HCS.out.row (rowF_get (f := fun a => Value.int .i64 (oF o a)) hil)
                      have hX : CS w (wr.setCell ⟨ob, i, none⟩ (.int .i64 q)) w.heap.size E.length ob (allS E E.length) (oF (ColorLaw.colorStep E.length (adjN (allS E E.length)) cN o i)) (.slice (some ⟨gv, 0, none⟩) E.length cp) l := by
                        have h := HCS.out.paint hgo hwo i (q : Int)
                        rw [colorStep_hit hql HFR.out hfree]
                        refine ⟨h.graph, h.row.trans ?_, h.ord, h.below⟩
                        congr 2
                        refine rowF_congr (fun a ha => ?_)
                        unfold oF
                        by_cases e : a = i
                        · subst e; rw [if_pos rfl, ColorLaw.getD_set_self _ _ _ _ (by rw [HOL.out]; exact hil)]
                        · rw [if_neg e, ColorLaw.getD_set_ne _ _ _ _ _ (Ne.symm e)]
                      have HX := Lib.hid hX
                      clear hX HCS hfree
                      go_wp2
                      go_meet
                      case rel => exact HX.out
                    · have hfree' : ColorLaw.free E.length (adjN (allS E E.length)) o i q = false := by simpa using hfree
                      rw [hfree'] at hdn
                      obtain rfl : tb = true := hdn
                      have HFR2 : Hid (∀ p, p < q + 1 → ColorLaw.free E.length (adjN (allS E E.length)) o i p = false) := Lib.hid (fun p hp => by
                        by_cases e : p = q
                        · subst e; exact hfree'
                        · exact HFR.out p (by omega))
                      clear hfree hfree'
                      go_wp2
                      go_roundw
                      case rel => exact ⟨q + 1, by omega, by go_num, HCS.out, HFR2.out⟩
                      case measure => simp [intOf]; omega
                  · intro x cb w6 cnt' hwx hSx hlx hrg1 hlt1 hg1 hs1 hen
                    obtain ⟨hx0, hx1⟩ := HIN.out x hSx
                    have hxn : x.toNat < E.length := by omega
                    have hCS6 : CS w w6 w.heap.size E.length ob (allS E E.length) (oF o) (.slice (some ⟨gv, 0, none⟩) E.length cp) l := HCS.out.grown hgo hwo hg1 (fun k h => by cases h; exact HR1.out) (.inr (fun e => by simp [Value.ownBlock] at e; have := HR2.out; omega))
                    have hts := takenB_step (n := E.length) (T := allS E E.length i) (left := left) (out := oF o) (q := q) hxn (by rw [Int.toNat_of_nonneg hx0]; exact hSx) (by rw [Int.toNat_of_nonneg hx0]; exact hlx)
                    rw [Int.toNat_of_nonneg hx0] at hts
                    obtain ⟨hc1, hf1⟩ := cell_of_row hCS6.row (rowF_get (f := fun a => Value.int .i64 (oF o a)) hxn)
                    obtain ⟨tb, htb⟩ : ∃ tb, tb = takenB E.length (allS E E.length i) left (oF o) q := ⟨_, rfl⟩
                    obtain ⟨ov, hov⟩ : ∃ ov, ov = oF o x.toNat := ⟨_, rfl⟩
                    rw [← htb, ← hov] at hts
                    rw [← hov] at hc1
                    rw [← htb]
                    have b0 : decide (0 ≤ x) = true := decide_eq_true hx0
                    have b1 : decide (x < (E.length : Int)) = true := decide_eq_true hx1
                    have HTS := Lib.hid hts
                    have HCS6 := Lib.hid hCS6
                    have HRG := Lib.hid hrg1
                    have HM := Lib.hid hrg.left_eq
                    clear hts hCS6 hrg1 hrg hov htb HCS hSx hlx hg1 hs1
                    cases tb with
                    | true =>
                      go_wp2
                      go_roundw
                      case rel => exact ⟨_, _, by rw [HTS.out]; rfl, HRG.out, HCS6.out⟩
                      case measure => rw [HRG.out.left_eq, HM.out]; exact hlt1
                    | false =>
                      by_cases hv1 : ov = (q : Int)
                      · have b2 : (ov == (q : Int)) = true := by simpa using hv1
                        clear hv1
                        go_wp2
                        go_roundw
                        case rel => exact ⟨_, _, by rw [HTS.out, b2]; rfl, HRG.out, HCS6.out⟩
                        case measure => rw [HRG.out.left_eq, HM.out]; exact hlt1
                      · have b2 : (ov == (q : Int)) = false := by simpa using hv1
                        clear hv1
                        go_wp2
                        go_roundw
                        case rel => exact ⟨_, _, by rw [HTS.out, b2]; rfl, HRG.out, HCS6.out⟩
                        case measure => rw [HRG.out.left_eq, HM.out]; exact hlt1
              · have e : q = cN := by omega
                subst e
                have hX := colorStep_miss hfr
                rw [← hX] at hCS
                have HX := Lib.hid hCS
                clear hCS hX hfr
                go_wp2
                go_meet
                case rel => exact HX.out
          case rest =>
            have hX := hcut
            clear hcut HCS
            rw [← HST.out] at hX
            go_wp2
            go_roundw
            case rel => exact ⟨k + 1, by omega, by go_num, hX⟩
            case measure => simp [intOf]; omega
        · have e : k = E.length := by omega
          subst e
          have hf : Kd.R (Kd.int .i64) 3 wr w.heap.size (fun _ => True) (.slice (some ⟨ob, 0, none⟩) E.length E.length) (colorE E a1) := by
            have hres := color_of_l HC.out HLL.out HLE.out HO0.out
            have hlen : (colorE E a1).length = E.length := by rw [hres, ColorLaw.colors_len, HO0.out, List.length_replicate]
            exact own_of_rowF hCS.row hwo (by omega) hlen (fun a _ => by rw [hres]; rfl)
          have HF := Lib.hid hf
          have HB := Lib.hid hCS.below
          clear hf hCS
          go_wp2
          go_ret
          exact ⟨_, rfl, HF.out, HB.out⟩

end Go.Proofs.Ytefkkgldlijbbaa
