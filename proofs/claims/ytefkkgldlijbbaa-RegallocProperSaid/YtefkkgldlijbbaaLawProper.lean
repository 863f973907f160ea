/- The law RegallocProper, walked: the colours that Color returns are proper, and who has none has neighbours with all of them. -/
import Derived.Test.YtefkkgldlijbbaaOpen
import Derived.Test.YtefkkgldlijbbaaPureA
import Derived.Deep.QuietTactic
import Derived.BigQuiet
namespace Go.Proofs.Ytefkkgldlijbbaa
open Go.RowKit Go.Maps Go.Proofs.YtefkkgldlijbbaaW.PrintWords Go.Proofs.Ytefkkgldlijbbaa.Open Go.Proofs.Ytefkkgldlijbbaa.H

theorem colorE_len (E : List (List Int)) (c : Int) : (colorE E c).length = E.length := by unfold colorE; rw [ColorLaw.color_len]

theorem Kd.C_step {α : Type} {d : Kd α} {w w1 : World} {A : Option Addr} {n : Nat} {xs : List α} (h : d.C w A n xs) (hb : Below w.heap.size w w1) : d.C w1 A n xs := Kd.C_below h hb

/-- The colours of the first j nodes' that are neighbours of i. -/
def seenS (E : List (List Int)) (l : List Int) (i j : Nat) (x : Int) : Bool := (List.range j).any fun b => adjE E i b && (l.getD b (-1) == x) && decide (0 ≤ x)
theorem seenS_succ {E : List (List Int)} {l : List Int} {i j : Nat} (x : Int) : seenS E l i (j + 1) x = (seenS E l i j x || (adjE E i j && (l.getD j (-1) == x) && decide (0 ≤ x))) := by
  unfold seenS
  rw [List.range_succ, List.any_append]; simp

theorem opens_rows3 : Opens Try.prog 22 (Kd.slice 26 (Kd.slice 3 (Kd.int .i64))) (fun xs => ∀ x ∈ xs, ∀ y ∈ x, (Lit.int .i64 y).wf = true) :=
  opens_slice Try.underlying22 (by kernel_rfl) (opens_slice Try.underlying26 (by kernel_rfl) (opens_int Try.underlying3))

set_option maxHeartbeats 4000000 in
set_option maxRecDepth 100000 in
theorem walkProper (A : Option Addr) (c : Nat) (E : List (List Int)) (cu : Int) (w : World) (hC : Kd.C (Kd.slice 3 (Kd.int .i64)) w A E.length E) (hl : E.length ≤ c) (_hI : ∀ x ∈ E, ∀ y ∈ x, (Lit.int .i64 y).wf = true) (hw : (Lit.int .u8 cu).wf = true) :
    Calls Try.prog 4 #[.slice A E.length c, .int .u8 cu] w fun e w' => e = .returned (.bool true) ∧ Below w.heap.size w w' := by
  have hcu : 0 ≤ cu ∧ cu ≤ 255 := by
    simp [Lit.wf, IntKind.min, IntKind.max, IntKind.signed, IntKind.bits] at hw
    omega
  obtain ⟨hcu0, hcu1⟩ := hcu
  have HE := Lib.hid hC
  clear hC hw
  obtain ⟨wb, hwb, hws⟩ := wide_f E 100 (by omega)
  have HWB := Lib.hid hwb
  clear hwb
  cases wb with
  | true =>
    clear hws
    go_enter Try.func4, Try.ntmps4
    go_wp2_with (first
      | (go_at_call 7; refine (ontimelaw20_awake.calls 100 true _ (awake_f 100 (by omega))).mono ?_; rintro e w1 ⟨rfl, hb1⟩)
      | (go_at_call 8; refine (ontimelaw20_wide.calls 100 A c E true _ (Kd.C_below HE.out hb1) hl HWB.out).mono ?_; rintro e w2 ⟨rfl, hd2⟩) | fail)
    go_ret
    exact ⟨rfl, hb1.trans (hd2.below.mono hb1.size)⟩
  | false =>
    have hE := hws rfl
    have HSM := Lib.hid hE
    have hn := hE.n
    clear hws hE
    obtain ⟨kc, hkc⟩ : ∃ kc : Nat, cu % 31 = (kc : Int) := ⟨(cu % 31).toNat, by omega⟩
    have hkb : kc ≤ 30 := by omega
    go_enter Try.func4, Try.ntmps4
    go_wp2_with (first
      | (go_at_call 7; refine (ontimelaw20_awake.calls 100 true _ (awake_f 100 (by omega))).mono ?_; rintro e w1 ⟨rfl, hb1⟩)
      | (go_at_call 8; refine (ontimelaw20_wide.calls 100 A c E false _ (Kd.C_below HE.out hb1) hl HWB.out).mono ?_; rintro e w2 ⟨rfl, hd2⟩)
      | (go_at_call 10; refine (color_calls A c E (kc : Int) _ (Kd.C_below HE.out (hb1.trans (hd2.below.mono hb1.size))) hl (by omega) (fun l hl => by have := HSM.out.l l hl; omega) (by omega)).mono ?_; rintro e w3 ⟨v, rfl, hR, hb3⟩; obtain ⟨Av, cv, hv, hlv, _⟩ := Kd.R_reads hR; rw [colorE_len] at hv hlv; subst hv; have hown := Kd.own_of_R hR; rw [colorE_len] at hown) | fail)
    have G := ColorLaw.color_good (c := kc) (n := E.length) (A := adjE E) (fun a b _ _ => adjE_symm E a b) (adjE_irr E)
    have hcol : colorE E (kc : Int) = ColorLaw.color E.length (adjE E) kc := by unfold colorE; rw [Int.toNat_natCast]
    rw [← hcol] at G
    have hown1 : w3.ownsRow w2.heap.size 3 1 (.slice Av E.length cv) E.length (nums .i64 (colorE E kc)) := hown
    have hb03 : Below w.heap.size w w3 := hb1.trans ((hd2.below.mono hb1.size).trans (hb3.mono (Nat.le_trans hb1.size hd2.below.size)))
    have hle := Nat.le_trans hb1.size hd2.below.size
    have hllen := colorE_len E (kc : Int)
    obtain ⟨l, hlE⟩ : ∃ l, l = colorE E (kc : Int) := ⟨_, rfl⟩
    rw [← hlE] at G hown1 hllen
    have HG := Lib.hid G
    have HLL := Lib.hid hllen
    have HO := Lib.hid (own_weaken hown1 hle)
    have HB := Lib.hid hb03
    clear G hcol hown hR hown1 hb03 hb1 hd2 hb3 hlE hllen
    go_loopw [27] (fun v wr => ∃ i : Nat, i ≤ E.length ∧ v = .int .i64 i ∧ wr.ownsRow w.heap.size 3 1 (.slice Av E.length cv) E.length (nums .i64 l) ∧ Below w.heap.size w wr) (fun v _ => E.length - (intOf v).toNat)
    case atStart => exact ⟨0, Nat.zero_le _, rfl, HO.out, HB.out⟩
    case round =>
      clear HO HB
      obtain ⟨i, hi, rfl, hown, hbel⟩ := hrel
      by_cases hlt : i < E.length
      · obtain ⟨g, cap, hv, hg, _⟩ := hown.form (by omega)
        injection hv with hA _ hcp
        subst hA hcp
        have hrd : ∀ j : Nat, j < E.length → rd l (j : Int) = l.getD j (-1) := fun j hj => by
          rw [rd_nat, List.getD_eq_getElem?_getD, List.getD_eq_getElem?_getD, List.getElem?_eq_getElem (by rw [HLL.out]; exact hj)]; rfl
        obtain ⟨hci, _⟩ := own_at hown (i : Int) (by omega) (by omega)
        rw [hrd i hlt, Int.toNat_natCast] at hci
        obtain ⟨li, hli⟩ : ∃ li, li = l.getD i (-1) := ⟨_, rfl⟩
        have hlo := HG.out.lo i
        rw [← hli] at hci hlo
        obtain ⟨hlo0, hlo1⟩ := hlo
        have b1 : decide (li < -1) = false := decide_eq_false (by omega)
        have b2 : decide ((kc : Int) ≤ li) = false := decide_eq_false (by omega)
        have HLI := Lib.hid hli
        have HOWN := Lib.hid hown
        have HBEL := Lib.hid hbel
        have HRD := Lib.hid hrd
        have hmm := @run_makeMap Try.prog
        clear hli hown hbel hrd hi
        go_wp2
        clear hmm
        have hset0 : IsSet (wr.alloc (.map #[] 0)) wr.heap.size 0 (seenS E l i 0) := (isSet_made wr).congr (fun x _ => by simp [seenS])
        have hgm : g < wr.heap.size := own_lt HOWN.out g (by simp [Value.ownBlock])
        have hO1 := HOWN.out.alloc (.map #[] 0)
        have hB1 := HBEL.out.alloc HBEL.out.size (.map #[] 0)
        have hbs := HBEL.out.size
        clear HOWN HBEL hci
        obtain ⟨mb, hmb⟩ : ∃ mb, mb = wr.heap.size := ⟨_, rfl⟩
        rw [← hmb] at hset0 hgm hbs ⊢
        clear hmb
        obtain ⟨wa, hwa⟩ : ∃ wa, wa = wr.alloc (.map #[] 0) := ⟨_, rfl⟩
        rw [← hwa] at hset0 hO1 hB1 ⊢
        clear hwa
        go_loopw [46] (fun v wx => ∃ j : Nat, j ≤ E.length ∧ v = .int .i64 j ∧ wx.ownsRow w.heap.size 3 1 (.slice (some ⟨g, 0, none⟩) E.length cv) E.length (nums .i64 l) ∧ Below w.heap.size w wx ∧ IsSet wx mb j (seenS E l i j)) (fun v _ => E.length - (intOf v).toNat)
        case atStart => exact ⟨0, Nat.zero_le _, rfl, hO1, hB1, hset0⟩
        case round =>
          clear hO1 hB1 hset0
          obtain ⟨j, hj, rfl, hown, hbel, hset⟩ := hrel
          by_cases hjl : j < E.length
          · have hadj := adjacent_f HSM.out i j 41 hlt hjl (Nat.le_refl _)
            have HADJ := Lib.hid hadj
            have HOWN := Lib.hid hown
            have HBEL := Lib.hid hbel
            have HSET := Lib.hid hset
            have hss := fun x => seenS_succ (E := E) (l := l) (i := i) (j := j) x
            obtain ⟨hcj, _⟩ := own_at hown (j : Int) (by omega) (by omega)
            obtain ⟨hci, _⟩ := own_at hown (i : Int) (by omega) (by omega)
            rw [HRD.out j hjl, Int.toNat_natCast] at hcj
            rw [HRD.out i hlt, Int.toNat_natCast, ← HLI.out] at hci
            obtain ⟨lj, hlj⟩ : ∃ lj, lj = l.getD j (-1) := ⟨_, rfl⟩
            rw [← hlj] at hcj hss
            have hljb := HG.out.lo j
            have hpr := HG.out.proper i j hlt hjl
            rw [← hlj] at hljb hpr
            rw [← HLI.out] at hpr
            obtain ⟨hj0, hj1⟩ := hljb
            clear hadj hown hbel hset hlj
            have hgne : some g ≠ some mb := by simp; omega
            by_cases hab : adjE E i j = true
            · rw [hab] at HADJ hss
              have hpr := hpr hab
              have HSS := Lib.hid hss
              have b3 : (0 ≤ li → (li == lj) = false) := fun h => by simpa using hpr h
              have HP := Lib.hid b3
              clear hab hss hpr b3
              have hno : lj < 0 → ∀ x, (Lit.int .i64 x).wf = true → seenS E l i j x = seenS E l i (j + 1) x := fun h x _ => by
                rw [HSS.out x]
                have : ((lj == x) && decide (0 ≤ x)) = false := by
                  by_cases e : lj = x
                  · subst e; simp; omega
                  · simp [e]
                rw [Bool.true_and, this, Bool.or_false]
              have hyes : 0 ≤ lj → ∀ x, (Lit.int .i64 x).wf = true → (x == lj || seenS E l i j x) = seenS E l i (j + 1) x := fun h x _ => by
                rw [HSS.out x, Bool.true_and, Bool.or_comm]
                congr 1
                by_cases e : lj = x
                · subst e; simp [h]
                · have : (x == lj) = false := by simpa using fun e1 => e e1.symm
                  simp [e, this]
              have HNO := Lib.hid hno
              have HYES := Lib.hid hyes
              clear hno hyes
              go_wp2_with (first | (go_at_call 12; refine (ontimeref20_Adjacent.calls 41 A c E (i : Int) (j : Int) true _ (Kd.C_step HE.out HBEL.out) hl HADJ.out).mono ?_; rintro e w5 ⟨rfl, ⟨k5, rfl⟩⟩) | fail)
              have HOW5 : Hid (∀ q, (wr.drewN q).ownsRow w.heap.size 3 1 (.slice (some ⟨g, 0, none⟩) E.length cv) E.length (nums .i64 l) ∧ Below w.heap.size w (wr.drewN q) ∧ IsSet (wr.drewN q) mb j (seenS E l i j)) :=
                Lib.hid (fun q => ⟨pw_own_below HOWN.out (pw_below_drewN (Below.refl _ _) _), pw_below_drewN HBEL.out _, HSET.out.same rfl⟩)
              have hgb : Hid (∀ {wq w6 : World}, wq.grownBy w6 (some mb) → wq.ownsRow w.heap.size 3 1 (.slice (some ⟨g, 0, none⟩) E.length cv) E.length (nums .i64 l) → Below w.heap.size w wq → w6.ownsRow w.heap.size 3 1 (.slice (some ⟨g, 0, none⟩) E.length cv) E.length (nums .i64 l) ∧ Below w.heap.size w w6) :=
                Lib.hid (fun hg6 ho hb => ⟨ho.kept hg6 (.inr (by simp [Value.ownBlock]; omega)), hb.grown hg6 hb.size (fun k hk => by cases hk; exact hbs)⟩)
              by_cases hli0 : 0 ≤ li
              · have b3 : decide (0 ≤ li) = true := decide_eq_true hli0
                have b4 := HP.out hli0
                go_quiet (fail)
                by_cases hlj0 : 0 ≤ lj
                · have b5 : decide (0 ≤ lj) = true := decide_eq_true hlj0
                  go_wp2_with (first | (at_mapUpdate; refine wpList_update_set _ rfl _ _ _ rfl mb j (seenS E l i j) rfl (HSET.out.same rfl) (by unfold maxLen; omega) lj rfl (wfI (by omega) (by omega)) rfl ?_; intro w6 hset6 hg6; have H6 := Lib.hid (hgb.out hg6 (HOW5.out _).1 (HOW5.out _).2.1); have HS6 := Lib.hid (hset6.congr (HYES.out hlj0)); clear hset6 hg6) | fail)
                  go_roundw
                  case rel => exact ⟨j + 1, by omega, by go_num, H6.out.1, H6.out.2, HS6.out⟩
                  case measure => simp [intOf]; omega
                · have b5 : decide (0 ≤ lj) = false := decide_eq_false hlj0
                  go_wp2
                  go_roundw
                  case rel => exact ⟨j + 1, by omega, by go_num, (HOW5.out _).1, (HOW5.out _).2.1, ((HOW5.out _).2.2.mono (by omega)).congr (HNO.out (by omega))⟩
                  case measure => simp [intOf]; omega
              · have b3 : decide (0 ≤ li) = false := decide_eq_false hli0
                go_quiet (fail)
                by_cases hlj0 : 0 ≤ lj
                · have b5 : decide (0 ≤ lj) = true := decide_eq_true hlj0
                  go_wp2_with (first | (at_mapUpdate; refine wpList_update_set _ rfl _ _ _ rfl mb j (seenS E l i j) rfl (HSET.out.same rfl) (by unfold maxLen; omega) lj rfl (wfI (by omega) (by omega)) rfl ?_; intro w6 hset6 hg6; have H6 := Lib.hid (hgb.out hg6 (HOW5.out _).1 (HOW5.out _).2.1); have HS6 := Lib.hid (hset6.congr (HYES.out hlj0)); clear hset6 hg6) | fail)
                  go_roundw
                  case rel => exact ⟨j + 1, by omega, by go_num, H6.out.1, H6.out.2, HS6.out⟩
                  case measure => simp [intOf]; omega
                · have b5 : decide (0 ≤ lj) = false := decide_eq_false hlj0
                  go_wp2
                  go_roundw
                  case rel => exact ⟨j + 1, by omega, by go_num, (HOW5.out _).1, (HOW5.out _).2.1, ((HOW5.out _).2.2.mono (by omega)).congr (HNO.out (by omega))⟩
                  case measure => simp [intOf]; omega
            · have hab' : adjE E i j = false := by simpa using hab
              rw [hab'] at HADJ hss
              have hX : ∀ x, (Lit.int .i64 x).wf = true → seenS E l i j x = seenS E l i (j + 1) x := fun x _ => by rw [hss x]; simp
              have HX := Lib.hid hX
              clear hab hab' hss hpr hX
              go_wp2_with (first | (go_at_call 12; refine (ontimeref20_Adjacent.calls 41 A c E (i : Int) (j : Int) false _ (Kd.C_step HE.out HBEL.out) hl HADJ.out).mono ?_; rintro e w5 ⟨rfl, ⟨k5, rfl⟩⟩) | fail)
              go_roundw
              case rel => exact ⟨j + 1, by omega, by go_num, pw_own_below HOWN.out (pw_below_drewN (Below.refl _ _) _), pw_below_drewN HBEL.out _, ((HSET.out.same rfl).mono (by omega)).congr HX.out⟩
              case measure => simp [intOf]; omega
          · have e : j = E.length := by omega
            subst e
            by_cases hli0 : li < 0
            · have b3 : decide (li < 0) = true := decide_eq_true hli0
              have hfull := HG.out.full i hlt (by simp) (by rw [← HLI.out]; omega)
              have hin : ∀ x, seenS E l i E.length x = true → 0 ≤ x ∧ x < kc := fun x hx => by
                unfold seenS at hx
                rw [List.any_eq_true] at hx
                obtain ⟨b, _, hb⟩ := hx
                simp only [Bool.and_eq_true, beq_iff_eq, decide_eq_true_eq] at hb
                have := (HG.out.lo b).2
                omega
              obtain ⟨nn, D, hownD, _, _, hsz⟩ := hset.size (N := kc) (by omega) hin
              have hcnt : (List.range kc).countP (fun q : Nat => seenS E l i E.length q) = kc := by
                have h : (List.range kc).countP (fun q : Nat => seenS E l i E.length q) = (List.range kc).length := List.countP_eq_length.2 (fun q hq => by
                  obtain ⟨b, hb1, hb2, hb3⟩ := hfull q (List.mem_range.1 hq)
                  unfold seenS
                  rw [List.any_eq_true]
                  exact ⟨b, List.mem_range.2 hb1, by rw [hb2, hb3]; simp⟩)
                rwa [List.length_range] at h
              have hlen := fun ty => hownD.len Try.underlying29 ty
              rw [hsz, hcnt] at hlen
              obtain ⟨hci, _⟩ := own_at hown (i : Int) (by omega) (by omega)
              rw [HRD.out i hlt, Int.toNat_natCast, ← HLI.out] at hci
              have HO := Lib.hid hown
              have HB := Lib.hid hbel
              clear hfull hin hownD hsz hcnt hset hown hbel
              go_wp2
              go_roundw
              case rel => exact ⟨i + 1, by omega, by go_num, HO.out, HB.out⟩
              case measure => simp [intOf]; omega
            · have b3 : decide (li < 0) = false := decide_eq_false hli0
              obtain ⟨hci, _⟩ := own_at hown (i : Int) (by omega) (by omega)
              rw [HRD.out i hlt, Int.toNat_natCast, ← HLI.out] at hci
              have HO := Lib.hid hown
              have HB := Lib.hid hbel
              clear hset hown hbel
              go_wp2
              go_roundw
              case rel => exact ⟨i + 1, by omega, by go_num, HO.out, HB.out⟩
              case measure => simp [intOf]; omega
      · go_wp2
        go_ret
        exact ⟨rfl, hbel⟩

end Go.Proofs.Ytefkkgldlijbbaa
