/- Texts of this claim, joined by a program (part 4); what nothing uses is left out. -/
import Derived.Test.YthgodpmahdnnjaaQv3
import Derived.Deep.LoopGhost
import Derived.StillTailTactics
import Derived.Deep.CutRange
import Derived.Deep.DeepCutAuto
import Derived.Deep.RegionWith
import Derived.Deep.RegionHeld3
import Derived.WalkKit
import Derived.Deep.AppendLies
import Derived.Deep.RegionLaw
set_option linter.unusedVariables false
set_option linter.unusedSimpArgs false
section
namespace Go.Proofs.Ythgodpmahdnnjaa
open Go.RowKit Go.Proofs.YthgodpmahdnnjaaW.PrintWords Go.Proofs.YthgodpmahdnnjaaW.PrintMore Go.Proofs.Ythgodpmahdnnjaa.H
def infT (d : Nat) (X : Nat → Nat) (q : Int) : Nat → Nat := if q = (d : Int) then X else upd (upd X q.toNat (X q.toNat ||| 2 ^ d)) d (X d ||| 2 ^ q.toNat)
def infStep (B : List S43) (X : Nat → Nat) (c : Vis) : Nat → Nat :=
  if (shp ((B.getD c.1 z43).f0.getD c.2.1 z62).f0).1 then (listN c.2.2).foldl (infT ((B.getD c.1 z43).f0.getD c.2.1 z62).f1.toNat) X else X
def infN (B : List S43) (cs : List Vis) : Nat → Nat := cs.foldl (infStep B) fun _ => 0
theorem infN_snoc (B : List S43) (cs : List Vis) (c : Vis) : infN B (cs ++ [c]) = infStep B (infN B cs) c := by simp [infN]
theorem listN_mem {m R : Nat} (hm : m < 2 ^ R) {q : Int} (hq : q ∈ listN m) : 0 ≤ q ∧ q < R := by
  unfold listN at hq
  obtain ⟨r, hr, rfl⟩ := List.mem_map.1 hq
  have hb := (List.mem_filter.1 hr).2
  refine ⟨by omega, ?_⟩
  rcases Nat.lt_or_ge r R with h | h
  · omega
  · rw [Nat.testBit_lt_two_pow (Nat.lt_of_lt_of_le hm (Nat.pow_le_pow_right (by decide) h))] at hb; cases hb
theorem listN_le' (m : Nat) : (listN m).length ≤ 40 := by
  unfold listN
  rw [List.length_map]
  exact Nat.le_trans (List.length_filter_le _ _) (by simp)
theorem getD_get0 {l : List Int} {j : Nat} (hj : j < l.length) : l.getD j 0 = l[j] := by rw [List.getD_eq_getElem?_getD, List.getElem?_eq_getElem hj]; rfl
structure InfJ (N base n₀ gc gs : Nat) (vs : Nat → Value) (X : Nat → Nat) (W : World) : Prop where
  box : W.heap[gc]? = some (.cells #[.slice (some ⟨gs, 0, none⟩) N N] 71 (0, 0))
  tab : W.heap[gs]? = some (.cells (rowF vs N) 75 (0, 0))
  own : ∀ r, r < N → Own1 0 W base (vs r) (rowN N (X r))
  sep : ∀ r r', r < N → r' < N → r ≠ r' → ∀ k, (vs r).ownBlock = some k → (vs r').ownBlock ≠ some k
  lt : ∀ r, r < N → ∀ k, (vs r).ownBlock = some k → k < n₀
  gcl : gc < n₀
  gsl : gs < n₀
  xlt : ∀ r, r < N → X r < 2 ^ N
  sz : n₀ ≤ W.heap.size
section
variable {N base n₀ gc gs : Nat} {vs : Nat → Value} {X : Nat → Nat} {W W' : World}
theorem InfJ.stable (h : InfJ N base n₀ gc gs vs X W) (hb : Below n₀ W W') : InfJ N base n₀ gc gs vs X W' :=
  ⟨(hb.block gc h.gcl).trans h.box, (hb.block gs h.gsl).trans h.tab, fun r hr => (h.own r hr).move fun k hk => hb.block k (h.lt r hr k hk), h.sep, h.lt, h.gcl, h.gsl, h.xlt, Nat.le_trans h.sz hb.size⟩
theorem InfJ.turn {r m : Nat} (h : InfJ N base n₀ gc gs vs X W) (hr : r < N) (hk : Kept W W' (fun k => (vs r).ownBlock = some k)) (ho : Own1 0 W' base (vs r) (rowN N m)) (hm : m < 2 ^ N) : InfJ N base n₀ gc gs vs (upd X r m) W' := by
  have hcell := (h.own r hr).cells
  refine ⟨(hk.2 gc (heap_lt h.box) fun e => ?_).trans h.box, (hk.2 gs (heap_lt h.tab) fun e => ?_).trans h.tab, fun q hq => ?_, h.sep, h.lt, h.gcl, h.gsl, fun q hq => ?_, Nat.le_trans h.sz hk.1⟩
  · obtain ⟨cs, hcs⟩ := hcell gc e; rw [h.box] at hcs; injection hcs with h1; injection h1 with _ h2 _; exact absurd h2 (by decide)
  · obtain ⟨cs, hcs⟩ := hcell gs e; rw [h.tab] at hcs; injection hcs with h1; injection h1 with _ h2 _; exact absurd h2 (by decide)
  · by_cases e : q = r
    · subst e; rw [upd_self]; exact ho
    · rw [upd_ne _ e]; exact (h.own q hq).kept hk fun k hk1 hk2 => h.sep r q hr hq (fun e1 => e e1.symm) k hk2 hk1
  · by_cases e : q = r
    · subst e; rw [upd_self]; exact hm
    · rw [upd_ne _ e]; exact h.xlt q hq
end
set_option maxHeartbeats 4000000 in
set_option maxRecDepth 100000 in
theorem act_calls (R : Nat) (hR : R ≤ 30) (B : List S43) (hF : OkF R B) (w0 : World) (n₀ gc gs : Nat) (vs : Nat → Value) (X : Nat → Nat) (b p m : Nat) (A : Option Addr) (c : Nat) (W : World) (hj : InfJ R w0.heap.size n₀ gc gs vs X W) (hbw : Below w0.heap.size w0 W) (hw0 : w0.heap.size ≤ n₀)
    (hb : b < B.length) (hp : p < (B.getD b z43).f0.length) (hm : m < 2 ^ R) (hc : (rowN R m).length ≤ c)
    (hC : ∀ W', Kept W W' (fun k => k < n₀ ∨ IsArr W k) → Kd.C (Kd.int .u64) W' A (rowN R m).length (rowN R m)) (s : S62) (hs : s = (B.getD b z43).f0.getD p z62) :
    Calls Try.prog 48 #[.int .i64 b, .int .i64 p, .agg #[.int .u8 s.f0, .int .i64 s.f1, .int .i64 s.f2, .int .i64 s.f3, .int .i64 s.f4, .string s.f5], .slice A (rowN R m).length c, .pointer (some ⟨gc, 0, none⟩)] W
      fun e W' => e = .returned (.tuple #[]) ∧ InfJ R w0.heap.size n₀ gc gs vs (infStep B X (b, p, m)) W' ∧ Below w0.heap.size w0 W' ∧ Kept W W' (fun k => k < n₀ ∨ IsArr W k) := by
  have hOk : OkI R s := by
    rw [hs]; exact (hF.b _ (memB hb)).code _ (memI hp)
  have hstep : infStep B X (b, p, m) = if (shp s.f0).1 then (listN m).foldl (infT s.f1.toNat) X else X := by unfold infStep; rw [hs]
  obtain ⟨X', hX'⟩ : ∃ X', X' = infStep B X (b, p, m) := ⟨_, rfl⟩
  rw [← hX']
  rw [← hX'] at hstep
  have HOK := Lib.hid hOk
  have HJ := Lib.hid hj
  have HBW := Lib.hid hbw
  have HC := Lib.hid hC
  have hdef := Defines_f s
  obtain ⟨o, ho⟩ : ∃ o, o = (shp s.f0).1 := ⟨_, rfl⟩
  rw [← ho] at hstep hdef
  have HO := Lib.hid ho
  clear hOk hX' hj hbw hC ho hs
  cases o with
  | false =>
    rw [if_neg (by decide)] at hstep hdef
    subst hstep
    go_enter Try.func48, Try.ntmps48
    go_wp2_with (first
      | ((with_reducible refine gate_dst (N := 7) rfl ?_); refine box_event ?hg (N := 7) ?hd (cs := #[.int .u8 s.f0, .int .i64 s.f1, .int .i64 s.f2, .int .i64 s.f3, .int .i64 s.f4, .string s.f5]) (t := 62) ?hr ?_; (case hd => rfl); (case hg => rfl); (case hr => first | (go_simp; done) | (go_simp; rfl)); intro g hg w3 hbox hbw; have HB3 := Lib.hid hbw; obtain ⟨i0, i1, i2, i3, i4, i5⟩ := cells6 hbox; clear hbox hbw; have HG := Lib.hid hg; clear hg)
      | (go_at_call 26; refine (ir_Defines.calls _ _ _ _ _ _ _ _ _ hdef).mono ?_; rintro e w4 ⟨rfl, hb4⟩; have HB4 := Lib.hid hb4; clear hb4)
      | fail)
    refine bodyPost_ret (results_none rfl _ _ _) rfl ?_
    have hb4 : Below W.heap.size W w4 := HB3.out.trans (HB4.out.mono HB3.out.size)
    exact ⟨rfl, HJ.out.stable (hb4.mono HJ.out.sz), HBW.out.trans (hb4.mono HBW.out.size), Kept.of_below hb4 _⟩
  | true =>
    rw [if_pos rfl] at hstep hdef
    have hd := HOK.out.d HO.out.symm
    obtain ⟨d, hde⟩ : ∃ d : Nat, s.f1 = (d : Int) := ⟨s.f1.toNat, by omega⟩
    have hdR : d < R := by omega
    rw [hde, Int.toNat_natCast] at hstep
    have HDE := Lib.hid hde
    have HST := Lib.hid hstep
    have hmem : ∀ q ∈ listN m, 0 ≤ q ∧ q < R := fun q hq => listN_mem hm hq
    have HMEM := Lib.hid hmem
    have hll := listN_le' m
    have hlist := list_f (k := 70) (R := R) (by omega) hm (Nat.le_refl _)
    have hcall := fun (W1 : World) (hb1 : Below W.heap.size W W1) => liveness_set_list.calls 70 A c (rowN R m) _ W1 (HC.out W1 (Kept.of_below hb1 _)) hc hlist
    have HCALL := Lib.hid hcall
    clear hstep hde hmem hlist hcall hd
    go_enter Try.func48, Try.ntmps48
    go_wp2_with (first
      | ((with_reducible refine gate_dst (N := 7) rfl ?_); refine box_event ?hg (N := 7) ?hd (cs := #[.int .u8 s.f0, .int .i64 s.f1, .int .i64 s.f2, .int .i64 s.f3, .int .i64 s.f4, .string s.f5]) (t := 62) ?hr ?_; (case hd => rfl); (case hg => rfl); (case hr => first | (go_simp; done) | (go_simp; rfl)); intro g hg w3 hbox hbw; have HB3 := Lib.hid hbw; obtain ⟨i0, i1, i2, i3, i4, i5⟩ := cells6 hbox; clear hbox hbw; have HG := Lib.hid hg; clear hg)
      | (go_at_call 26; refine (ir_Defines.calls _ _ _ _ _ _ _ _ _ hdef).mono ?_; rintro e w4 ⟨rfl, hb4⟩; have HB4 := Lib.hid (HB3.out.trans (hb4.mono HB3.out.size)); clear hb4)
      | (go_at_call 37; refine (HCALL.out w4 HB4.out).mono ?_; rintro e w5 ⟨v5, rfl, hR5, hb5⟩; obtain ⟨A5, c5, rfl, hl5, _⟩ := Kd.R_reads hR5; have HR5 := Lib.hid (Own1.of_R0 (t := 3) hR5); have HB5 := Lib.hid (HB4.out.trans (hb5.mono HB4.out.size)); clear hR5 hb5)
      | fail)
    obtain ⟨L, hL⟩ : ∃ L, L = listN m := ⟨_, rfl⟩
    rw [← hL] at HST HMEM hll HR5 hl5 ⊢
    have HJ5 := Lib.hid (HJ.out.stable (HB5.out.mono HJ.out.sz))
    have HK5 := Lib.hid (Kept.of_below HB5.out (fun k => k < n₀ ∨ IsArr W k))
    have HBW5 := Lib.hid (HBW.out.trans (HB5.out.mono HBW.out.size))
    have hw4s : W.heap.size ≤ w4.heap.size := HB4.out.size
    clear hL i0 i1 i2 i3 i4 i5 HCALL HG HB3 hdef HC
    go_loopw [23] (fun v wr => ∃ j : Nat, j ≤ L.length ∧ v = .int .i64 j ∧ InfJ R w0.heap.size n₀ gc gs vs ((L.take j).foldl (infT d) X) wr ∧ Own1 3 wr w4.heap.size (.slice A5 L.length c5) L ∧ Below w0.heap.size w0 wr ∧ Kept W wr (fun k => k < n₀ ∨ IsArr W k)) (fun v _ => L.length - (intOf v).toNat)
    case atStart => exact ⟨0, Nat.zero_le _, rfl, HJ5.out, HR5.out, HBW5.out, HK5.out⟩
    case round =>
      obtain ⟨j, hj, rfl, hJ, hrow, hbw, hk⟩ := hrel
      obtain ⟨wo, rfl⟩ : ∃ wo, wo = wr := ⟨_, rfl⟩
      obtain ⟨_, _, hcS⟩ := Kd.R_reads' (hrow.R0 (t := 3) (ok := fun _ => True) (fun _ _ => trivial))
      have HJo := Lib.hid hJ
      have HROW := Lib.hid hrow
      have HBo := Lib.hid hbw
      have HKo := Lib.hid hk
      clear hJ hrow hbw hk HJ5 HK5 HBW5 HR5
      by_cases hjl : j < L.length
      · obtain ⟨a5, rfl, hq5⟩ := at_ints hcS j hjl
        have hqok := HMEM.out (L.getD j 0) (by rw [getD_get0 hjl]; exact List.getElem_mem hjl)
        obtain ⟨q, hq⟩ : ∃ q : Nat, L.getD j 0 = (q : Int) := ⟨(L.getD j 0).toNat, by omega⟩
        rw [hq] at hq5 hqok
        have hqR : q < R := by omega
        obtain ⟨Y, hY⟩ : ∃ Y, Y = (L.take j).foldl (infT d) X := ⟨_, rfl⟩
        rw [← hY] at HJo
        have hnext : (L.take (j + 1)).foldl (infT d) X = infT d Y (q : Int) := by
          rw [List.take_succ_eq_append_getElem hjl, List.foldl_append, hY, ← getD_get0 hjl, hq]; rfl
        have HNX := Lib.hid hnext
        clear hq hcS hnext hY
        by_cases he : q = d
        · have b1 : ((q : Int) == s.f1) = true := by rw [he, HDE.out]; simp
          have hsame : infT d Y (q : Int) = Y := by unfold infT; rw [if_pos (by rw [he])]
          have HSM := Lib.hid hsame
          clear he hsame
          go_wp2
          go_roundw
          case rel => exact ⟨j + 1, by omega, by go_num, by rw [HNX.out, HSM.out]; exact HJo.out, HROW.out, HBo.out, HKo.out⟩
          case measure => simp [intOf]; omega
        · have b1 : ((q : Int) == s.f1) = false := by rw [HDE.out]; exact beq_eq_false_iff_ne.2 (by omega)
          have hsame : infT d Y (q : Int) = upd (upd Y q (Y q ||| 2 ^ d)) d (Y d ||| 2 ^ q) := by unfold infT; rw [if_neg (by omega), Int.toNat_natCast]
          have HSM := Lib.hid hsame
          have HE := Lib.hid he
          clear he hsame
          have hf1 := add_f (R := R) (m := Y q) (r := d) (by omega) (HJo.out.xlt q hqR) hdR
          rw [← HDE.out] at hf1
          have hcall1 := liveness_set_add.calls (fun k => (vs q).ownBlock = some k) (vs q) (rowN R (Y q)) s.f1 _ w0 wo HBo.out ((HJo.out.own q hqR).R0 (t := 0) (fun _ h => h)) hf1
          have hf2 := add_f (R := R) (m := Y d) (r := q) (by omega) (HJo.out.xlt d hdR) hqR
          have hcall2 := fun (W1 : World) (hb1 : Below w0.heap.size w0 W1) (ho : Own1 0 W1 w0.heap.size (vs d) (rowN R (Y d))) => liveness_set_add.calls (fun k => (vs d).ownBlock = some k) (vs d) (rowN R (Y d)) (q : Int) _ w0 W1 hb1 (ho.R0 (t := 0) (fun _ h => h)) hf2
          have HC1 := Lib.hid hcall1
          have HC2 := Lib.hid hcall2
          have y0 : wo.cell? ⟨gc, 0, none⟩ = some (.slice (some ⟨gs, 0, none⟩) R R) := (blk_cell HJo.out.box 0).trans rfl
          obtain ⟨y1, _⟩ := cell_of_row HJo.out.tab (rowF_get hqR)
          clear hf1 hf2 hcall1 hcall2
          go_upto_region 8 with (first
            | (go_at_call 41; refine HC1.out.mono ?_; rintro e w8 ⟨rfl, hR8, hb8, hk8⟩; have HB8 := Lib.hid hb8; have HK8 := Lib.hid hk8; have HJ8 := Lib.hid (HJo.out.turn hqR hk8 (Own1.of_R0 (t := 0) hR8) (add_lt (HJo.out.xlt q hqR) hdR)); clear hR8 hb8 hk8)
            | fail)
          have ho8 := HJ8.out.own d hdR
          rw [upd_ne _ (fun e => HE.out e.symm)] at ho8
          have HO8 := Lib.hid ho8
          have x0 : w8.cell? ⟨gc, 0, none⟩ = some (.slice (some ⟨gs, 0, none⟩) R R) := (blk_cell HJ8.out.box 0).trans rfl
          obtain ⟨x1, _⟩ := cell_of_row HJ8.out.tab (rowF_get hdR)
          have hdd : (0 : Int) ≤ s.f1 ∧ s.f1 < R ∧ s.f1.toNat = d := by have := HDE.out; omega
          obtain ⟨hd1, hd2, hd3⟩ := hdd
          clear y0 y1 ho8
          go_wp2_with (first
            | (go_at_call 41; refine (HC2.out w8 HB8.out HO8.out).mono ?_; rintro e w9 ⟨rfl, hR9, hb9, hk9⟩; have HB9 := Lib.hid hb9; have HK9 := Lib.hid hk9; have HJ9 := Lib.hid (HJ8.out.turn hdR hk9 (Own1.of_R0 (t := 0) hR9) (add_lt (HJo.out.xlt d hdR) hqR)); clear hR9 hb9 hk9)
            | fail)
          go_roundw
          case rel =>
            have hX : infT d Y (q : Int) = upd (upd Y q (Y q ||| 2 ^ d)) d (Y d ||| 2 ^ q) := HSM.out
            have hlt : ∀ k, (vs q).ownBlock = some k → k < n₀ := HJo.out.lt q hqR
            have hlt2 : ∀ k, (vs d).ownBlock = some k → k < n₀ := HJo.out.lt d hdR
            have hT8 : TyS wo (fun k => (vs q).ownBlock = some k) (fun t => t = 113) := fun k hk _ => by obtain ⟨cs, hcs⟩ := (HJo.out.own q hqR).cells k hk; exact ⟨cs, _, hcs, rfl⟩
            have hT9 : TyS w8 (fun k => (vs d).ownBlock = some k) (fun t => t = 113) := fun k hk _ => by obtain ⟨cs, hcs⟩ := HO8.out.cells k hk; exact ⟨cs, _, hcs, rfl⟩
            refine ⟨j + 1, by omega, by go_num, by rw [HNX.out, hX]; exact HJ9.out, (HROW.out.ty HK8.out hT8 (by decide)).ty HK9.out hT9 (by decide), HB9.out, (HKo.out.then_ HK8.out (fun k hk => .inl (.inl (hlt k hk)))).then_ HK9.out (fun k hk => .inl (.inl (hlt2 k hk)))⟩
          case measure => simp [intOf]; omega
      · have e : j = L.length := by omega
        subst e
        rw [List.take_length, ← HST.out] at HJo
        clear hcS
        go_wp2
        first | go_end0 | (refine bodyPost_ret (results_none rfl _ _ _) rfl ?_)
        exact ⟨rfl, HJo.out, HBo.out, HKo.out⟩
end Go.Proofs.Ythgodpmahdnnjaa
end
section
namespace Go.Proofs.Ythgodpmahdnnjaa
open Go.RowKit Go.Proofs.YthgodpmahdnnjaaW.PrintWords Go.Proofs.YthgodpmahdnnjaaW.PrintMore Go.Proofs.Ythgodpmahdnnjaa.H
attribute [local go_sem] Oper.semAt_some
set_option maxHeartbeats 8000000 in
set_option maxRecDepth 100000 in
theorem visit_calls (nm : ByteArray) (R : Nat) (hR : R ≤ 30) (A2 : Option Addr) (c2 n2 : Nat) (A3 : Option Addr) (c3 : Nat) (B : List S43) (gc : Nat) (w0 w : World) (J : List Vis → World → Prop) (hb0 : Below w0.heap.size w0 w)
    (hC3 : k43.C w0 A3 B.length B) (hc3 : B.length ≤ c3) (hn : B.length ≤ 30) (hcode : ∀ x ∈ B, x.f0.length ≤ 1000) (hF : OkF R B)
    (hact : ActOk R B 48 #[.pointer (some ⟨gc, 0, none⟩)] w0 w.heap.size J) (hJ : J [] w) :
    Calls Try.prog 47 #[.agg #[.string nm, .int .i64 R, .slice A2 n2 c2, .slice A3 B.length c3], .func (.func 48) #[] #[.pointer (some ⟨gc, 0, none⟩)]] w
      fun e w' => ∃ (I O : Nat → Nat), e = .returned (.tuple #[]) ∧ SI R B I O [] ∧ J (visL B O B.length) w' ∧ Below w0.heap.size w0 w' := by
  have hne : 0 < B.length := List.length_pos_iff.2 hF.ne
  have HC3 := Lib.hid hC3
  have HCD := Lib.hid hcode
  have HF := Lib.hid hF
  have HACT := Lib.hid hact
  have HJ0 := Lib.hid hJ
  have HB0 := Lib.hid hb0
  clear hC3 hcode hF hact hJ hb0
  refine calls_of_wp_marks Try.func47 rfl ?_
  simp only [Try.ntmps47, List.size_toArray, List.length_cons, List.length_nil, Nat.reduceAdd, Nat.reduceSub, Array.replicate_succ, Array.replicate_zero, List.push_toArray, List.append_toArray, List.nil_append, List.cons_append]
  go_wp2_with (first
    | ((with_reducible refine gate_dst (N := 2) rfl ?_); refine box_event ?hg (N := 2) ?hd (cs := #[.string nm, .int .i64 R, .slice A2 n2 c2, .slice A3 B.length c3]) (t := 25) ?hr ?_; (case hd => rfl); (case hg => rfl); (case hr => first | (go_simp; done) | (go_simp; rfl)); intro g hg w1 hbox hbw; have BK := Lib.hid hbox; have HBW := Lib.hid hbw; clear hbox hbw; have HG := Lib.hid hg; clear hg)
    | ((with_reducible refine gate_dst (N := 3) rfl ?_); refine box_event ?hg (N := 3) ?hd (cs := #[.func (.func 48) #[] #[.pointer (some ⟨gc, 0, none⟩)]]) (t := 92) ?hr ?_; (case hd => rfl); (case hg => rfl); (case hr => first | (go_simp; done) | (go_simp; rfl)); intro g3 hg3 w3 hbox3 hbw3; have BK3 := Lib.hid hbox3; have HBW3 := Lib.hid hbw3; have BKA := Lib.hid (heap_below BK.out hbw3); clear hbox3 hbw3; obtain ⟨z0, z1, z2, z3⟩ := cells4 BKA.out; have HG3 := Lib.hid hg3; clear hg3)
    | (go_at_call 36; refine (solve_calls nm R hR A2 c2 n2 A3 c3 B _ (Kd.C_below (Kd.C_below (Kd.C_below HC3.out HB0.out) HBW.out) HBW3.out) hc3 hn HCD.out HF.out).mono ?_; rintro e w7 ⟨gi, go_, V, I, O, rfl, hsi, hown, hgi, hgo, hb7, _, hgow3⟩; have HSI := Lib.hid hsi; have HOWN := Lib.hid hown; have HGO := Lib.hid hgo; have HB7 := Lib.hid hb7; have BKB := Lib.hid (heap_below BKA.out hb7); have BKC := Lib.hid (heap_below BK3.out hb7); clear hsi hown hgi hgo hb7 z0 z1 z2 z3; obtain ⟨z0, z1, z2, z3⟩ := cells4 BKB.out)
    | fail)
  have hb03 : Below w.heap.size w w3 := HBW.out.trans (HBW3.out.mono HBW.out.size)
  have hw3 : w.heap.size ≤ w3.heap.size := hb03.size
  have hb07 : Below w.heap.size w w7 := hb03.trans (HB7.out.mono hw3)
  have hg3w : w.heap.size ≤ g3 := by rw [HG3.out]; exact HBW.out.size
  have HB07 := Lib.hid (HB0.out.trans (hb07.mono HB0.out.size))
  have HJ7 := Lib.hid (HACT.out.stable _ _ _ HJ0.out hb07 (fun k ⟨cs, hk⟩ => hb07.block k (heap_lt hk)))
  have HOWN7 := Lib.hid (show ∀ b, b < B.length → Own1 1 w7 w.heap.size (V 1 b) (rowN R (O b)) from fun b hb => (HOWN.out b hb).2.lower hw3)
  have hgow : w.heap.size ≤ go_ := Nat.le_trans hw3 hgow3
  have HSZ7 := Lib.hid hb07.size
  clear z0 z1 z2 z3 BK BK3 BKA BKB HBW HBW3 HG HG3 HB7 hb03 hb07 HOWN
  refine wp_loop_ghost_k (fun k a wr => ∃ (Ds : List Nat) (i : Nat), i ≤ B.length ∧ FrV (.pointer (some ⟨g3, 0, none⟩)) (.slice (some ⟨go_, 0, none⟩) B.length B.length) (.slice A3 B.length c3) (.int .i64 B.length) (.int .i64 i) Ds a ∧ MarksOk wr w.heap.size Ds ∧ wr.heap[g3]? = some (.cells #[.func (.func 48) #[] #[.pointer (some ⟨gc, 0, none⟩)]] 92 (0, 0)) ∧
    wr.heap[go_]? = some (.cells (rowF (V 1) B.length) 75 (0, 0)) ∧ (∀ b, b < B.length → Own1 1 wr w.heap.size (V 1 b) (rowN R (O b))) ∧ J (visL B O i) wr ∧ Below w0.heap.size w0 wr ∧ w.heap.size ≤ wr.heap.size ∧ k = B.length - i) (B.length) ?_ ?_
  · exact ⟨[], 0, Nat.zero_le _, by apply FrV.intro, ⟨List.nodup_nil, by simp⟩, BKC.out, HGO.out, HOWN7.out, HJ7.out, HB07.out, HSZ7.out, rfl⟩
  · intro gk a wr hI JJ K hJJ hK
    clear HB07 HJ7 HOWN7 HSZ7 HGO BKC HJ0
    obtain ⟨Ds, i, hi, ⟨x, rfl⟩, hmk, hbk3, hgo, hown, hj, hbw, hsz, hgk⟩ := hI
    have HMK := Lib.hid hmk
    have HBK3 := Lib.hid hbk3
    have HGO := Lib.hid hgo
    have HOWN := Lib.hid hown
    have HJ := Lib.hid hj
    have HBW := Lib.hid hbw
    have HSZ := Lib.hid hsz
    have HGK := Lib.hid hgk
    have HJJ := Lib.hid hJJ
    clear hmk hbk3 hgo hown hj hbw hsz hgk hJJ
    by_cases hlt : i < B.length
    · obtain ⟨ad, A0, c0, hA3, p0, p1, p2, p3, p4, hl0, hC0⟩ := at_T43 HC3.out (i : Int) (by omega) (by omega)
      subst hA3
      rw [Int.toNat_natCast] at p0 p1 p2 p3 p4
      have hrd : rd_T43 B (i : Int) = B.getD i z43 := by unfold rd_T43; rw [Int.toNat_natCast]
      rw [hrd] at p0 p1 p2 p3 p4 hl0 hC0
      have hmem := memB hlt
      have hOb := HF.out.b _ hmem
      have hcl := HCD.out _ hmem
      obtain ⟨y, hy⟩ : ∃ y, y = B.getD i z43 := ⟨_, rfl⟩
      rw [← hy] at p0 p1 p2 p3 p4 hl0 hC0 hOb hcl
      have q0 := (World.cell?_of_block (HBW.out.block _ (World.block_lt_of_cell? w0 _ p0))).trans p0
      have q1 := (World.cell?_of_block (HBW.out.block _ (World.block_lt_of_cell? w0 _ p1))).trans p1
      have q2 := (World.cell?_of_block (HBW.out.block _ (World.block_lt_of_cell? w0 _ p2))).trans p2
      have q3 := (World.cell?_of_block (HBW.out.block _ (World.block_lt_of_cell? w0 _ p3))).trans p3
      have q4 := (World.cell?_of_block (HBW.out.block _ (World.block_lt_of_cell? w0 _ p4))).trans p4
      have HY := Lib.hid hy
      have HOB := Lib.hid hOb
      have HC0 := Lib.hid hC0
      have HHK := Lib.hid hK
      clear p0 p1 p2 p3 p4 hy hOb hC0 hrd hmem hK
      go_upto_region 5 with (first
        | ((with_reducible refine gate_dst (N := 6) rfl ?_); refine box_event ?hg (N := 6) ?hd (cs := #[.int .i64 0]) (t := 3) ?hr ?_; (case hd => rfl); (case hg => rfl); (case hr => first | (go_simp; done) | (go_simp; rfl)); intro g6 hg6 w6 hbox6 hbw6; have BK6 := Lib.hid hbox6; have HBW6 := Lib.hid hbw6; have HG6 := Lib.hid hg6; clear hbox6 hbw6 hg6)
        | ((with_reducible refine gate_dst (N := 7) rfl ?_); refine box_event ?hg (N := 7) ?hd (cs := #[.slice none 0 0, .int .u8 0, .int .i64 0, .int .i64 0, .int .i64 0]) (t := 43) ?hr ?_; (case hd => rfl); (case hg => rfl); (case hr => first | (go_simp; done) | (go_simp; rfl)); intro g7 hg7 w7b hbox7 hbw7; obtain ⟨y0, y1, y2, y3, y4⟩ := cells5 hbox7; have f0 := blk_frozen hbox7 0; have f1 := blk_frozen hbox7 1; have f2 := blk_frozen hbox7 2; have f3 := blk_frozen hbox7 3; have f4 := blk_frozen hbox7 4; have BK7 := Lib.hid hbox7; have HBW7 := Lib.hid hbw7; have BK6b := Lib.hid (heap_below BK6.out hbw7); have HG7 := Lib.hid hg7; clear hbox7 hbw7 hg7; have n0 : w7b.cell? ⟨g6, 0, none⟩ = some (.int .i64 0) := (blk_cell BK6b.out 0).trans rfl; have fn0 := blk_frozen BK6b.out 0; have hg67 : g6 ≠ g7 := by rw [HG7.out]; have := heap_lt BK6.out; omega)
        | fail)
      obtain ⟨w4, hw4⟩ : ∃ w4, w4 = ((((((w7b.setCell ⟨g6, 0, none⟩ (.int .i64 i)).setCell ⟨g7, 0, none⟩ (.slice A0 y.f0.length c0)).setCell ⟨g7, 1, none⟩ (.int .u8 y.f1)).setCell ⟨g7, 2, none⟩ (.int .i64 y.f2)).setCell ⟨g7, 3, none⟩ (.int .i64 y.f3)).setCell ⟨g7, 4, none⟩ (.int .i64 y.f4)) := ⟨_, rfl⟩
      have hg6e : wr.heap.size ≤ g6 := by rw [HG6.out]; exact Nat.le_refl _
      have hg7e : wr.heap.size ≤ g7 := by rw [HG7.out]; exact HBW6.out.size
      have hb4 : Below wr.heap.size wr w4 := by
        rw [hw4]
        exact ((((((HBW6.out.trans (HBW7.out.mono HBW6.out.size)).setCell (p := ⟨g6, 0, none⟩) hg6e _).setCell (p := ⟨g7, 0, none⟩) hg7e _).setCell (p := ⟨g7, 1, none⟩) hg7e _).setCell (p := ⟨g7, 2, none⟩) hg7e _).setCell (p := ⟨g7, 3, none⟩) hg7e _).setCell (p := ⟨g7, 4, none⟩) hg7e _
      have hk67 : (w7b.setCell ⟨g6, 0, none⟩ (.int .i64 i)).heap[g7]? = _ := (Below.heap_setCell w7b ⟨g6, 0, none⟩ (.int .i64 i) g7 (fun e => hg67 e.symm)).trans BK7.out
      have hk7 : w4.heap[g7]? = some (.cells #[.slice A0 y.f0.length c0, .int .u8 y.f1, .int .i64 y.f2, .int .i64 y.f3, .int .i64 y.f4] 43 (0, 0)) := by rw [hw4]; exact blk_five hk67 _ _ _ _ _
      have hk6 : w4.heap[g6]? = some (.cells #[.int .i64 i] 3 (0, 0)) := by
        rw [hw4]
        have h0 : (w7b.setCell ⟨g6, 0, none⟩ (.int .i64 i)).heap[g6]? = some (.cells #[.int .i64 i] 3 (0, 0)) := blk_put BK6b.out 0 _ rfl
        exact (Below.heap_setCell _ ⟨g7, 4, none⟩ _ g6 hg67).trans ((Below.heap_setCell _ ⟨g7, 3, none⟩ _ g6 hg67).trans ((Below.heap_setCell _ ⟨g7, 2, none⟩ _ g6 hg67).trans ((Below.heap_setCell _ ⟨g7, 1, none⟩ _ g6 hg67).trans ((Below.heap_setCell _ ⟨g7, 0, none⟩ _ g6 hg67).trans h0))))
      rw [← hw4]
      have hg64 : g6 < w4.heap.size := heap_lt hk6
      have hg34 : g3 < w4.heap.size := heap_lt (heap_below HBK3.out hb4)
      have hsz4 : w.heap.size ≤ w4.heap.size := Nat.le_trans HSZ.out hb4.size
      have HB4 := Lib.hid hb4
      have HBW4 := Lib.hid (HBW.out.trans (hb4.mono HBW.out.size))
      have HK7 := Lib.hid hk7
      have HK6 := Lib.hid hk6
      have HK3 := Lib.hid (heap_below HBK3.out hb4)
      have HGO4 := Lib.hid (heap_below HGO.out hb4)
      have HMK4 := Lib.hid (HMK.out.below hb4)
      have HOWN4 := Lib.hid (show ∀ b, b < B.length → Own1 1 w4 w.heap.size (V 1 b) (rowN R (O b)) from fun b hb => (HOWN.out b hb).kept (Kept.of_below hb4 (fun _ => False)) (fun _ _ h => h))
      have HJ4 := Lib.hid (HACT.out.stable _ _ _ HJ.out (hb4.mono HSZ.out) (fun k ⟨cs, hk⟩ => hb4.block k (heap_lt hk)))
      clear hw4 hb4 hk67 hk7 hk6 y0 y1 y2 y3 y4 f0 f1 f2 f3 f4 n0 fn0 q0 q1 q2 q3 q4 BK6 BK7 BK6b HBW6 HBW7 HG6 HG7 HMK HGO HOWN HJ HBK3
      have ho1 := HOWN4.out i hlt
      obtain ⟨A1, c1, e1, hl1, hC1⟩ := Kd.R_reads (ho1.R0 (t := 1) (ok := fun _ => True) (fun _ _ => trivial))
      have hOl := (HSI.out.lt i hlt).2
      have hend := AtEnd_f (R := R) (by omega) HOB.out hOl
      have hcall := fun (W1 : World) (hb1 : Below w4.heap.size w4 W1) => liveness_atEnd.calls A0 c0 y.f0 y.f1 y.f2 y.f3 y.f4 A1 c1 (rowN R (O i)) _ W1 (Kd.C_below (Kd.C_below HC0.out HBW4.out) hb1) hl0 (Kd.C_below hC1 hb1) hl1 hend
      have HCALL := Lib.hid hcall
      obtain ⟨r1, _⟩ := cell_of_row HGO4.out (rowF_get hlt)
      rw [e1] at r1
      have HE1 := Lib.hid e1
      obtain ⟨k0, k1, k2, k3, k4⟩ := cells5 HK7.out
      have n6 : w4.cell? ⟨g6, 0, none⟩ = some (.int .i64 i) := (blk_cell HK6.out 0).trans rfl
      clear ho1 hC1 hl1 hcall hend e1
      go_cut [8] from 20 to 44 (fun v8 wx => ∃ (gb : Nat) (vl : Value), v8 = .pointer (some ⟨gb, 0, none⟩) ∧ Lv w4 wx gb vl (rowN R (endN y (O i))))
      case first =>
        skip
        have hal : Below w4.heap.size w4 (w4.alloc (.cells #[.slice none 0 0] 75)).drew := ((Below.refl w4.heap.size w4).alloc (Nat.le_refl _) _).drew
        obtain ⟨r1a, _⟩ := cell_of_row (heap_below HGO4.out hal) (rowF_get hlt)
        rw [HE1.out] at r1a
        obtain ⟨k0a, k1a, k2a, k3a, k4a⟩ := cells5 (heap_below HK7.out hal)
        have n6a : (w4.alloc (.cells #[.slice none 0 0] 75)).drew.cell? ⟨g6, 0, none⟩ = some (.int .i64 i) := (blk_cell (heap_below HK6.out hal) 0).trans rfl
        have HAL := Lib.hid hal
        clear hal
        go_region_with (first
          | (go_at_call 42; refine (HCALL.out w4.drew (Below.refl _ _).drew).mono ?_; rintro e w8 ⟨v8, rfl, hR8, hb8⟩; obtain ⟨A8, c8, rfl, _, _⟩ := Kd.R_reads hR8; have HR8 := Lib.hid hR8; have HB8 := Lib.hid hb8; clear hR8 hb8)
          | (go_at_call 42; refine (HCALL.out (w4.alloc (.cells #[.slice none 0 0] 75)).drew HAL.out).mono ?_; rintro e w9 ⟨v9, rfl, hR9, hb9⟩; obtain ⟨A9, c9, rfl, _, _⟩ := Kd.R_reads hR9; have hnb : w9.heap[w4.heap.size]? = some (.cells #[.slice none 0 0] 75 (0, 0)) := heap_below (w := (w4.alloc (.cells #[.slice none 0 0] 75)).drew) (World.alloc_heap_new w4 _) hb9; have n0 : w9.cell? ⟨w4.heap.size, 0, none⟩ = some (.slice none 0 0) := (blk_cell hnb 0).trans rfl; have fn0 := blk_frozen hnb 0; have HNB := Lib.hid hnb; clear hnb; have HR9 := Lib.hid hR9; have HB9 := Lib.hid hb9; clear hR9 hb9)
          | fail)
        all_goals
          first
            | (have hX := Lv.new1 (wm := w4) HB8.out (Own1.of_R0 (t := 4) HR8.out)
               have HX := Lib.hid hX
               clear hX
               go_wp2_with fail
               go_meet
               case rel => exact ⟨_, _, rfl, HX.out⟩)
            | (have hX := Lv.new2 (wm := w4) HB9.out HNB.out (Own1.of_R0 (t := 4) HR9.out)
               have HX := Lib.hid hX
               clear hX
               go_wp2_with fail
               go_meet
               case rel => exact ⟨_, _, rfl, HX.out⟩)
      case rest =>
        obtain ⟨gb, vl, rfl, hgb, hgbl, hvl, hbx⟩ := hcut
        obtain ⟨wx, rfl⟩ : ∃ wx, wx = wc := ⟨_, rfl⟩
        have HGB := Lib.hid hgb
        have HVL := Lib.hid hvl
        have HBX := Lib.hid (HBW4.out.trans (hbx.mono HBW4.out.size))
        have HK7x := Lib.hid (heap_below HK7.out hbx)
        have HK6x := Lib.hid (heap_below HK6.out hbx)
        have HK3x := Lib.hid (heap_below HK3.out hbx)
        have HGOx := Lib.hid (heap_below HGO4.out hbx)
        have HMKx := Lib.hid (HMK4.out.below hbx)
        have HOWNx := Lib.hid (show ∀ b, b < B.length → Own1 1 wx w.heap.size (V 1 b) (rowN R (O b)) from fun b hb => (HOWN4.out b hb).kept (Kept.of_below hbx (fun _ => False)) (fun _ _ h => h))
        have hVlt : ∀ b, b < B.length → ∀ k, (V 1 b).ownBlock = some k → k < w4.heap.size := fun b hb k hk => ((HOWN4.out b hb).lt k hk).2
        have HVLT := Lib.hid hVlt
        have HJx := Lib.hid (HACT.out.stable _ _ _ HJ4.out (hbx.mono hsz4) (fun k ⟨cs, hk⟩ => hbx.block k (heap_lt hk)))
        have hszx : w.heap.size ≤ wx.heap.size := Nat.le_trans hsz4 hbx.size
        clear hgb hvl hbx hVlt r1 k0 k1 k2 k3 k4 n6 HCALL HGO4 HMK4 HOWN4 HJ4 HK7 HK6 HK3
        obtain ⟨k0, k1, k2, k3, k4⟩ := cells5 HK7x.out
        have hC9 := (callsIn_wide (n := 0)).1 (back_in Fence.wide 0 trivial rfl A0 y.f0.length c0 wx)
        go_wp2_with (first
          | (go_at_call 43; refine hC9.mono ?_; rintro e wd ⟨rfl, hwd⟩; have HWD := Lib.hid hwd; clear hwd hC9)
          | fail)
        have hcd : Below wx.heap.size wx wd := by rw [HWD.out]; exact (Below.refl _ wx).alloc (Nat.le_refl _) _
        have hszd : wd.heap.size = wx.heap.size + 1 := by rw [HWD.out]; exact alloc_size1 _ _
        have HBS := Lib.hid (show wd.heap[wx.heap.size]? = some (.cells #[.slice A0 y.f0.length c0] 41 (0, 0)) by rw [HWD.out]; exact World.alloc_heap_new wx _)
        have HBWD := Lib.hid (HBX.out.trans (hcd.mono HBX.out.size))
        have HGBd := Lib.hid (heap_below HGB.out hcd)
        have HK6d := Lib.hid (heap_below HK6x.out hcd)
        have HK3d := Lib.hid (heap_below HK3x.out hcd)
        have HGOd := Lib.hid (heap_below HGOx.out hcd)
        have HMKd := Lib.hid (HMKx.out.below hcd)
        have HOWNd := Lib.hid (show ∀ b, b < B.length → Own1 1 wd w.heap.size (V 1 b) (rowN R (O b)) from fun b hb => (HOWNx.out b hb).kept (Kept.of_below hcd (fun _ => False)) (fun _ _ h => h))
        have HVLd := Lib.hid (HVL.out.kept (Kept.of_below hcd (fun _ => False)) (fun _ _ h => h))
        have HJd := Lib.hid (HACT.out.stable _ _ _ HJx.out (hcd.mono hszx) (fun k ⟨cs, hk⟩ => hcd.block k (heap_lt hk)))
        have hm1 : endN y (O i) < 2 ^ R := endN_lt HOB.out hOl
        obtain ⟨m1, hm1e⟩ : ∃ m1, m1 = endN y (O i) := ⟨_, rfl⟩
        rw [← hm1e] at HVLd hm1
        have HM1 := Lib.hid hm1e
        have hcdo : ∀ i ∈ y.f0, OkI R i := HOB.out.code
        have HCDO := Lib.hid hcdo
        have hw0 : w0.heap.size ≤ w.heap.size := HB0.out.size
        have hvll : ∀ k, vl.ownBlock = some k → w4.heap.size ≤ k := fun k hk => (HVLd.out.lt k hk).1
        have HVLL := Lib.hid hvll
        clear hcd hcdo hm1e hvll k0 k1 k2 k3 k4 HGB HVL HK7x HK6x HK3x HGOx HMKx HOWNx HJx
        refine with_act _ ?_
        intro A hA
        refine (wpIn_wide (n := 9)).1 ?_
        refine wpIn_rangeFunc_ownH (F := Fence.wide) (n := 9) rfl (by decide) (gf := 67) (lb := #[.pointer (some ⟨wx.heap.size, 0, none⟩)]) (by rw [hA]; rfl) trivial (enters_of Try.func67 (by kernel_rfl) rfl)
          (back_stops Fence.wide 8 trivial rfl (by decide) wx.heap.size w0 A0 c0 y.f0 HC0.out hcl wd HBWD.out HBS.out) (fun h k => KeepB.trans h k) (keepB_b HBWD.out.size (by omega)) (Below.refl _ _) (fun _ => rfl)
          (fun pre W => (Own1 4 W w4.heap.size vl (rowN R (foldB m1 pre)) ∧ W.heap[gb]? = some (.cells #[vl] 75 (0, 0)) ∧ W.heap[wx.heap.size]? = some (.cells #[.slice A0 y.f0.length c0] 41 (0, 0))) ∧ (Below w0.heap.size w0 W ∧ Kept wd W (VisS wd w.heap.size vl)) ∧ J (visL B O i ++ visP i m1 pre) W) (fun _ _ _ => False)
          (OwnFrom.and (OwnFrom.and (Own.from (own_own1 4 w4.heap.size (fun _ => vl) (fun pre => rowN R (foldB m1 pre))) _) (OwnFrom.and (Own.from (own_cells gb (fun _ => #[vl]) 75) _) (Own.from (own_cells wx.heap.size (fun _ => #[.slice A0 y.f0.length c0]) 41) _))) (OwnFrom.and (OwnFrom.and (ownFrom_below (Nat.le_refl _) HBWD.out.size) (ownFrom_kept (Nat.le_refl _) (fun _ => VisS wd w.heap.size vl))) (HACT.out.own (by omega) (fun pre => visL B O i ++ visP i m1 pre))))
          (fun _ _ _ _ _ hs _ _ => hs) ⟨⟨HVLd.out, HGBd.out, HBS.out⟩, ⟨HBWD.out, Kept.refl _ _⟩, by have := HJd.out; simpa [visP] using this⟩
          (fun x a' W => ∃ Bx, W.heap[Bx]? = some (.cells #[.int .u8 x.1.2.f0, .int .i64 x.1.2.f1, .int .i64 x.1.2.f2, .int .i64 x.1.2.f3, .int .i64 x.1.2.f4, .string x.1.2.f5] 62 (0, 0)) ∧ w.heap.size ≤ Bx ∧
            a' = { tmps := (((A.tmps.setIfInBounds 33 (.int .i64 x.1.1)).setIfInBounds 34 (.agg #[.int .u8 x.1.2.f0, .int .i64 x.1.2.f1, .int .i64 x.1.2.f2, .int .i64 x.1.2.f3, .int .i64 x.1.2.f4, .string x.1.2.f5])).setIfInBounds 9 (.int .i64 x.1.1)).setIfInBounds 10 (.pointer (some ⟨Bx, 0, none⟩)), defers := [] })
          (fun x a' _ X Y row hs hg hr => by obtain ⟨Bx, h1, h2⟩ := hs; exact ⟨Bx, own_cells Bx (fun (_ : Unit) => #[.int .u8 x.1.2.f0, .int .i64 x.1.2.f1, .int .i64 x.1.2.f2, .int .i64 x.1.2.f3, .int .i64 x.1.2.f4, .string x.1.2.f5]) 62 () X Y row h1 hg (fun r e => (hr r e).2), h2⟩)
          ?assign ?body ?done ?stop
        case assign =>
          rintro l pre x W K ⟨⟨h1, h2, h4⟩, ⟨h3, h5⟩, h6⟩ hK
          subst hA
          unfold encB
          gi_wp2
          have hal : Below W.heap.size W (W.alloc (.cells #[.int .u8 x.1.2.f0, .int .i64 x.1.2.f1, .int .i64 x.1.2.f2, .int .i64 x.1.2.f3, .int .i64 x.1.2.f4, .string x.1.2.f5] 62)) := (Below.refl _ W).alloc (Nat.le_refl _) _
          have hszW : w.heap.size ≤ W.heap.size := HACT.out.size _ _ h6
          exact hK _ _ ((KeepsOthers.alloc _ _).from _) ⟨(Below.refl _ W).alloc h3.size _, Below.heap_alloc W _ _ (heap_lt h4)⟩ ⟨⟨h1.kept (Kept.of_below hal (fun _ => False)) (fun _ _ h => h), (Below.heap_alloc W _ _ (heap_lt h2)).trans h2, (Below.heap_alloc W _ _ (heap_lt h4)).trans h4⟩, ⟨h3.alloc h3.size _, h5.alloc _⟩, HACT.out.stable _ _ _ h6 (hal.mono hszW) (fun k ⟨cs, hk⟩ => hal.block k (heap_lt hk))⟩ ⟨W.heap.size, World.alloc_heap_new W _, hszW, rfl⟩
        case body =>
          rintro l pre x a' W _ _ ⟨⟨h1, h2, h4⟩, ⟨h3, h5⟩, h6⟩ ⟨Bx, hbx, hBxl, rfl⟩ _
          subst hA
          obtain ⟨⟨xi, xs⟩, p, hp, hxe⟩ := x
          have hx1 := (Prod.mk.inj hxe).1
          have hx2 := (Prod.mk.inj hxe).2
          subst hx1
          have hszW : w.heap.size ≤ W.heap.size := HACT.out.size _ _ h6
          have hml : foldB m1 pre < 2 ^ R := foldB_lt HCDO.out pre m1 hm1
          have hvn : ∀ k, vl.ownBlock = some k → w.heap.size ≤ k := fun k hk => Nat.le_trans hsz4 (HVLL.out k hk)
          obtain ⟨Av, cv, ev, hlv, _⟩ := Kd.R_reads (h1.R0 (t := 4) (ok := fun k => vl.ownBlock = some k) (fun _ h => h))
          have hC : ∀ W', Kept W W' (fun k => k < w.heap.size ∨ IsArr W k) → Kd.C (Kd.int .u64) W' Av (rowN R (foldB m1 pre)).length (rowN R (foldB m1 pre)) :=
            Kd.C_kept_own (d := Kd.int .u64) (e := 113) (base := w4.heap.size) (ok := fun k => vl.ownBlock = some k) (c := cv) (by rw [← ev]; exact h1.R0 (t := 4) (fun _ h => h)) (fun k hk hs => by
              rcases hs with hs | ⟨cs, hs⟩
              · have := hvn k hk; omega
              · obtain ⟨cs', hcs'⟩ := h1.cells k hk; rw [hs] at hcs'; injection hcs' with h1; injection h1 with _ h2 _; exact absurd h2 (by decide))
          have hact := HACT.out.call (visL B O i ++ visP i m1 pre) i p (foldB m1 pre) Av cv W h6 h3 hszW hlt (by rw [← HY.out]; exact hp) hml hlv hC
          rw [← HY.out, ← hx2] at hact
          have hOs : OkI R xs := by rw [hx2]; exact HCDO.out _ (by rw [List.getD_eq_getElem?_getD, List.getElem?_eq_getElem hp]; simp)
          have HOS := Lib.hid hOs
          clear hOs
          simp only [List.append_toArray, List.cons_append, List.nil_append] at hact
          have hacall := CallsIn.inRound l ((callsIn_wide (n := 9 - 1 - 1 - 1)).2 hact)
          have HACALL := Lib.hid hacall
          obtain ⟨i0, i1, i2, i3, i4, i5⟩ := cells6 hbx
          have n0 : W.cell? ⟨gb, 0, none⟩ = some vl := (blk_cell h2 0).trans rfl
          rw [ev] at n0
          have hg6w : w.heap.size ≤ g6 := Nat.le_trans HSZ.out hg6e
          have hk6 := VisS.blk h5 HK6d.out (by decide) hg6w (fun e => by have h7 := HVLL.out g6 e; have h8 := hg64; omega)
          have hk3 := VisS.blk h5 HK3d.out (by decide) hg3w (fun e => by have h7 := HVLL.out g3 e; have h8 := hg34; omega)
          have n6 : W.cell? ⟨g6, 0, none⟩ = some (.int .i64 i) := (blk_cell hk6 0).trans rfl
          have n3 : W.cell? ⟨g3, 0, none⟩ = some (.func (.func 48) #[] #[.pointer (some ⟨gc, 0, none⟩)]) := (blk_cell hk3 0).trans rfl
          have H1 := Lib.hid h1
          have H2 := Lib.hid h2
          have H3 := Lib.hid h3
          have H4 := Lib.hid h4
          have H5 := Lib.hid h5
          have H6 := Lib.hid h6
          have HBX2 := Lib.hid hbx
          have HEV := Lib.hid ev
          clear hact hacall h1 h2 h3 h4 h5 h6 hbx hC hk6 hk3 ev hx2
          simp only [List.setIfInBounds_toArray, List.set_cons_succ, List.set_cons_zero]
          gi_wp2
          refine ⟨trivial, HACALL.out.mono ?_⟩
          rintro e W1 ⟨rfl, hj1, hb1, hk1⟩
          have hown1 := ActK.own hk1 H1.out (by decide) hsz4
          have hgb1 := ActK.blk hk1 H2.out (by decide) (Nat.le_trans hsz4 hgbl)
          have hbs1 := ActK.blk hk1 H4.out (by decide) hszx
          have hbx1 := ActK.blk hk1 HBX2.out (by decide) hBxl
          have hbef := Before_f (R := R) (by omega) HOS.out hml
          have hcall := CallsIn.inRound l ((callsIn_wide (n := 9 - 1 - 1 - 1)).2 (liveness_before.calls 10 _ _ _ _ _ _ (fun k => vl.ownBlock = some k) vl _ _ w0 W1 hb1 ((hown1.lower (Nat.le_trans hw0 hsz4)).R0 (t := 4) (fun _ h => h)) hbef))
          have HCALL2 := Lib.hid hcall
          clear i0 i1 i2 i3 i4 i5 n0 n6 n3
          obtain ⟨i0, i1, i2, i3, i4, i5⟩ := cells6 hbx1
          have n0 : W1.cell? ⟨gb, 0, none⟩ = some vl := (blk_cell hgb1 0).trans rfl
          have HJ1 := Lib.hid hj1
          have HB1 := Lib.hid hb1
          have HK1 := Lib.hid hk1
          have HO1 := Lib.hid hown1
          have HGB1 := Lib.hid hgb1
          have HBS1 := Lib.hid hbs1
          clear hcall hbef hj1 hb1 hk1 hown1 hgb1 hbs1 hbx1 HACALL
          gi_wp2
          refine ⟨trivial, HCALL2.out.mono ?_⟩
          rintro e W2 ⟨rfl, hR', hB', hK'⟩
          have HR' := Lib.hid hR'
          have HB' := Lib.hid hB'
          have HK' := Lib.hid hK'
          clear hR' hB' hK' i0 i1 i2 i3 i4 i5 n0
          gi_wp2
          have hcells : ∀ k, vl.ownBlock = some k → k < W1.heap.size → ∃ cs t fr, W1.heap[k]? = some (.cells cs t fr) := fun k hk _ => by
            obtain ⟨cs, hcs⟩ := HO1.out.cells k hk; exact ⟨cs, _, _, hcs⟩
          have hne : ∀ k cs t, W1.heap[k]? = some (.cells cs t (0, 0)) → t ≠ te 4 → ¬ vl.ownBlock = some k := fun k cs t hk ht hS => by
            obtain ⟨cs', hcs'⟩ := HO1.out.cells k hS
            rw [hk] at hcs'; cases hcs'; exact ht rfl
          have h2' : W2.heap[gb]? = W1.heap[gb]? := HK'.out.2 gb (heap_lt HGB1.out) (hne _ _ _ HGB1.out (by decide))
          have h4' : W2.heap[wx.heap.size]? = W1.heap[wx.heap.size]? := HK'.out.2 _ (heap_lt HBS1.out) (hne _ _ _ HBS1.out (by decide))
          have hb12 : Below w.heap.size W1 W2 := below_of_kept HB1.out HB'.out HK'.out hvn (Nat.le_trans hszW HK1.out.1)
          have hj2 := HACT.out.stable _ _ _ HJ1.out hb12 (fun k ⟨cs, hk⟩ => HK'.out.2 k (heap_lt hk) (hne _ _ _ hk (by decide)))
          rw [List.append_assoc] at hj2
          refine ⟨(ActK.from_ HK1.out (by omega)).trans (keepsFrom_kept HK'.out hcells), ⟨below_between H3.out HB'.out (Nat.le_trans HK1.out.1 HK'.out.1), h4'.trans (HBS1.out.trans H4.out.symm)⟩, ⟨⟨?_, h2'.trans HGB1.out, h4'.trans HBS1.out⟩, ⟨HB'.out, VisS.bef (VisS.act H5.out HK1.out) HK'.out⟩, ?_⟩⟩
          · rw [foldB_snoc]; exact (Own1.of_R0 (t := 4) HR'.out).raise HVLL.out
          · rw [visP_snoc]; exact hj2
        case done =>
          rintro D ys W hD hys ⟨⟨h1, h2, h4⟩, ⟨h3, h5⟩, h6⟩ hK2
          subst hA
          have hown : ∀ b, b < B.length → Own1 1 W w.heap.size (V 1 b) (rowN R (O b)) := fun b hb => VisS.own h5 (HOWNd.out b hb) (by decide) (fun k hk e => by have h7 := HVLL.out k e; have h8 := HVLT.out b hb k hk; omega)
          have hk3 := VisS.blk h5 HK3d.out (by decide) hg3w (fun e => by have h7 := HVLL.out g3 e; omega)
          have hgo := VisS.blk h5 HGOd.out (by decide) hgow (fun e => by obtain ⟨cs, hcs⟩ := HVLd.out.cells go_ e; rw [HGOd.out] at hcs; injection hcs with h7; injection h7 with _ h8 _; exact absurd h8 (by decide))
          have hmk := (VisS.marks h5 HVLd.out HMKd.out).cons (Nat.le_trans (by omega) hD) hK2 (fun E hE e => by have := heap_lt (HMKd.out.2 E hE).2; omega)
          have hjf : J (visL B O (i + 1)) W := by
            rw [visL_succ, ← HY.out, ← HM1.out, ← visP_all i m1 hys]; exact h6
          have HOWNf := Lib.hid hown
          have HK3f := Lib.hid hk3
          have HGOf := Lib.hid hgo
          have HMKf := Lib.hid hmk
          have HJf := Lib.hid hjf
          have HBf := Lib.hid h3
          have HSf := Lib.hid (HACT.out.size _ _ h6)
          clear h1 h2 h4 h3 h5 h6 hys hown hk3 hgo hmk hjf hK2
          dsimp only
          go_wp2
          refine HHK.out _ _ (Handed.intro (B.length - (i + 1)) (by have := HGK.out; omega) (HJJ.out _ _ _ ⟨D :: Ds, i + 1, by omega, by apply FrV.intro, HMKf.out, HK3f.out, HGOf.out, HOWNf.out, HJf.out, HBf.out, HSf.out, rfl⟩))
        case stop =>
          rintro D c pre W _ _ h _
          exact h.elim
    · have e : i = B.length := by omega
      subst e
      go_wp2
      refine (show retPost Fence.wide 9 Try.prog Try.f47 _ .ret _ _ from ret_marks (base := w.heap.size) HMK.out ?_)
      intro w8 hb8 hk8
      refine ⟨_, results_none rfl _ _ _, I, O, rfl, HSI.out, ?_, HBW.out.trans (hb8.mono HB0.out.size)⟩
      refine HACT.out.stable _ _ _ HJ.out hb8 (fun k ⟨cs, hk⟩ => hk8 k fun D hD e => ?_)
      subst e
      rw [(HMK.out.2 _ hD).2] at hk
      cases hk
end Go.Proofs.Ythgodpmahdnnjaa
end
section
namespace Go.Proofs.Ythgodpmahdnnjaa.Two
section
variable {P : Program} {md : Region.Mode} {ops : Array Oper} {Q : Exit → Act → World → Prop} {S : World → Prop} {g n : Nat}
def wpTwo (P : Program) (md : Region.Mode) (ops : Array Oper) (Q : Exit → Act → World → Prop) (S : World → Prop) (g n : Nat) : Nat → Array Bool → Act → World → Prop
  | 0, listed, a, w => (∀ j ∈ Region.ready md ops listed, n ≤ j) ∧ wpAny P md ops Q g listed a w
  | f + 1, listed, a, w => Region.ready md ops listed ≠ [] ∧ ∀ i ∈ Region.ready md ops listed, wpOp P ops Q i (fun a' w' => S w' ∧ wpTwo P md ops Q S g n f (listed.setIfInBounds i true) a' w') a w
theorem wpAny_of_two : ∀ (f : Nat) (listed : Array Bool) (a : Act) (w : World), wpTwo P md ops Q S g n f listed a w → wpAny P md ops Q (f + g) listed a w
  | 0, _, _, _, h => by rw [Nat.zero_add]; exact h.2
  | f + 1, _, _, _, h => by
    rw [show f + 1 + g = (f + g) + 1 by omega]
    exact ⟨fun h0 => absurd h0 h.1, fun i hi => wpOp_mono (fun a' w' h' => wpAny_of_two f _ a' w' h'.2) (h.2 i hi)⟩
def waitsT (md : Region.Mode) (ops : Array Oper) : Nat → Nat → Nat → Bool
  | 0, j, i => Region.waitsFor md ops j i
  | f + 1, j, i => Region.waitsFor md ops j i || (List.range ops.size).any fun k => Region.waitsFor md ops j k && waitsT md ops f k i
def Closed (md : Region.Mode) (ops : Array Oper) (listed : Array Bool) : Prop := ∀ k ok, listed.getD k false = true → ops[k]? = some ok → ∀ e ∈ ok.after, Region.binds md e = true → listed.getD e.on false = true
def closedB (md : Region.Mode) (ops : Array Oper) (listed : Array Bool) : Bool := (List.range ops.size).all fun k => !(listed.getD k false) || match ops[k]? with
  | none => true
  | some o => o.after.all fun e => !(Region.binds md e) || listed.getD e.on false
theorem closed_of {listed : Array Bool} (h : closedB md ops listed = true) : Closed md ops listed := by
  intro k ok hk hok e he hb
  have h1 := List.all_eq_true.1 h k (List.mem_range.2 (Array.getElem?_eq_some_iff.1 hok).1)
  rw [hok, hk] at h1
  simp only [Bool.not_true, Bool.false_or] at h1
  have h2 := Array.all_eq_true'.1 h1 e he
  rw [hb] at h2
  simpa using h2
theorem waitsT_spec {listed : Array Bool} (hc : Closed md ops listed) : ∀ (f j i : Nat), waitsT md ops f j i = true → (∀ oj, ops[j]? = some oj → ∀ e ∈ oj.after, Region.binds md e = true → listed.getD e.on false = true) → listed.getD i false = true
  | 0, j, i, h, hj => by
    obtain ⟨oj, hoj, e, he, hb, heq⟩ := Region.waitsFor_spec h
    rw [← heq]; exact hj oj hoj e he hb
  | f + 1, j, i, h, hj => by
    unfold waitsT at h
    rw [Bool.or_eq_true] at h
    rcases h with h | h
    · obtain ⟨oj, hoj, e, he, hb, heq⟩ := Region.waitsFor_spec h
      rw [← heq]; exact hj oj hoj e he hb
    · obtain ⟨k, _, hk⟩ := List.any_eq_true.1 h
      rw [Bool.and_eq_true] at hk
      obtain ⟨oj, hoj, e, he, hb, heq⟩ := Region.waitsFor_spec hk.1
      exact waitsT_spec hc f k i hk.2 fun ok hok => hc k ok (heq ▸ hj oj hoj e he hb) hok
def waits (md : Region.Mode) (ops : Array Oper) (n : Nat) : Bool := (List.range ops.size).all fun t => decide (t < n) || (List.range n).all fun i => waitsT md ops 5 t i
theorem waits_spec (h : waits md ops n = true) {t i : Nat} (ht : n ≤ t) (hts : t < ops.size) (hi : i < n) : waitsT md ops 5 t i = true := by
  have h1 := List.all_eq_true.1 h t (List.mem_range.2 hts)
  rw [Bool.or_eq_true, decide_eq_true_eq] at h1
  rcases h1 with h1 | h1
  · omega
  · exact List.all_eq_true.1 h1 i (List.mem_range.2 hi)
theorem closed_set {listed : Array Bool} {j : Nat} (hc : Closed md ops listed) (hj : j ∈ Region.ready md ops listed) : Closed md ops (listed.setIfInBounds j true) := by
  intro k ok hk hok e he hb
  by_cases hkj : j = k
  · subst hkj
    obtain ⟨_, oj, hoj, hall⟩ := mem_ready.1 hj
    obtain rfl : oj = ok := Option.some.inj (hoj.symm.trans hok)
    exact getD_set_true (hall e he hb)
  · rw [getD_set_ne false hkj] at hk
    exact getD_set_true (hc k ok hk hok e he hb)
theorem two_first {i : Nat} {oi : Oper} {v : Value} (hi : ops[i]? = some oi) (hsel : ∀ (j : Nat) (o : Oper) cs b, ops[j]? = some o → o.op ≠ .select cs b)
    (hQ : ∀ c a w, Q (.panic c) (a.put oi.dst v) w → Q (.panic c) a w) (hin : i < n) (hw : waits md ops n = true) :
    ∀ (f : Nat) (listed : Array Bool) (a : Act) (w : World), Closed md ops listed →
      (∀ j oj, ops[j]? = some oj → j ≠ i → listed.getD j true = false → (∀ e ∈ oj.after, Region.binds md e = true → e.on ≠ i) → oi.apart ops oj = true) →
      i ∈ Region.ready md ops listed → YieldsIf P ops S oi v a → S w →
      wpTwo P md ops Q S g n f (listed.setIfInBounds i true) (a.put oi.dst v) w → wpTwo P md ops Q S g n (f + 1) listed a w := by
  have hnot : ∀ (listed : Array Bool) (j : Nat), i ∈ Region.ready md ops listed → j ∈ Region.ready md ops listed → ∀ oj, ops[j]? = some oj → ∀ e ∈ oj.after, Region.binds md e = true → e.on ≠ i := by
    intro listed j hr hj oj hoj e he hb heq
    obtain ⟨_, oj', hoj', hall⟩ := mem_ready.1 hj
    obtain rfl : oj = oj' := Option.some.inj (hoj.symm.trans hoj')
    have h1 := hall e he hb
    have h0 := (mem_ready.1 hr).1
    rw [heq] at h1
    rcases Nat.lt_or_ge i listed.size with h' | h'
    · simp [h'] at h0 h1; rw [h0] at h1; cases h1
    · simp [Array.getElem?_eq_none h'] at h1
  intro f
  induction f with
  | zero =>
    intro listed a w hcl _ hr hy hS H
    refine ⟨fun h => (by rw [h] at hr; cases hr), fun j hj => ?_⟩
    by_cases hji : j = i
    · subst hji; exact hy.wpOp hi hS ⟨hS, H⟩
    · have hnj := H.1 j (ready_mono hj hji)
      obtain ⟨_, oj, hoj, hall⟩ := mem_ready.1 hj
      have h1 := waitsT_spec hcl 5 j i (waits_spec hw hnj (Array.getElem?_eq_some_iff.1 hoj).1 hin) (fun oj' hoj' => by obtain rfl : oj = oj' := Option.some.inj (hoj.symm.trans hoj'); exact hall)
      have h0 := (mem_ready.1 hr).1
      rcases Nat.lt_or_ge i listed.size with h' | h'
      · simp [h'] at h0 h1; rw [h0] at h1; cases h1
      · simp [Array.getElem?_eq_none h'] at h1
  | succ f ih =>
    intro listed a w hcl hfree hr hy hS H
    refine ⟨fun h => (by rw [h] at hr; cases hr), fun j hj => ?_⟩
    by_cases hji : j = i
    · subst hji; exact hy.wpOp hi hS ⟨hS, H⟩
    · have h1 := H.2 j (ready_mono hj hji)
      obtain ⟨hjun, oj, hoj, _⟩ := mem_ready.1 hj
      have h2 := wpOp_putIf hoj (hfree j oj hoj hji hjun (hnot listed j hr hj oj hoj)) (fun cs b => hsel i oi cs b hi) (fun cs b => hsel j oj cs b hoj) hQ hy h1
      have hfree' : ∀ k ok, ops[k]? = some ok → k ≠ i → (listed.setIfInBounds j true).getD k true = false →
          (∀ e ∈ ok.after, Region.binds md e = true → e.on ≠ i) → oi.apart ops ok = true := fun k ok hk hki hun hno => by
        refine hfree k ok hk hki ?_ hno
        by_cases hjk : j = k
        · subst hjk; exact hjun
        · rw [getD_set_ne true hjk] at hun; exact hun
      refine wpOp_mono (fun a' w' h3 => ⟨h3.2.1, ih (listed.setIfInBounds j true) a' w' (closed_set hcl hj) hfree' (ready_mono hr (Ne.symm hji)) h3.1 h3.2.1 ?_⟩) h2
      rw [Array.setIfInBounds_comm _ _ hji]
      exact h3.2.2
theorem take (i : Nat) {oi : Oper} {v : Value} {f : Nat} {listed : Array Bool} {a : Act} {w : World} (hi : ops[i]? = some oi) (hy : YieldsIf P ops S oi v a) (hin : decide (i < n) = true) (hw : waits md ops n = true)
    (hs : Region.noSelect ops = true) (hf : Region.free md ops listed i = true) (hcl : closedB md ops listed = true) (hr : (Region.ready md ops listed).contains i = true)
    (hQ : ∀ c a w, Q (.panic c) (a.put oi.dst v) w → Q (.panic c) a w) (hS : S w)
    (h : wpTwo P md ops Q S g n f (listed.setIfInBounds i true) (a.put oi.dst v) w) : wpTwo P md ops Q S g n (f + 1) listed a w :=
  two_first hi (Region.noSelect_spec hs) hQ (of_decide_eq_true hin) hw f listed a w (closed_of hcl) (Region.free_spec hi hf) (by simpa using hr) hy hS h
theorem step (i : Nat) {o : Oper} {f : Nat} {listed : Array Bool} {a : Act} {w : World} (ho : ops[i]? = some o) (hr : Region.ready md ops listed = [i])
    (h : ∀ K' : Act → World → Prop, Shut (∀ a w, S w → (S w → wpTwo P md ops Q S g n f (listed.setIfInBounds i true) a w) → K' a w) → if Region.wanted o (yielded ops a.tmps) = true then Oper.wp P o a w K' Q else K' (a.put o.dst undef) w) : wpTwo P md ops Q S g n (f + 1) listed a w := by
  refine ⟨by rw [hr]; simp, fun j hj => ?_⟩
  rw [hr] at hj
  obtain rfl : j = i := by simpa using hj
  exact wpOp_step ho (fun K' hK => h K' (fun a w hS hW => hK a w ⟨hS, hW hS⟩))
theorem tail {l : List Oper} (hl : ops.toList.drop n = l) {listed : Array Bool} {a : Act} {w : World} (hg : l.length = g) (hn : (Region.ready md ops listed).all (fun j => decide (n ≤ j)) = true) (hB : Region.seqB md ops g n listed = true) (h : wpList P ops Q l a w) :
    wpTwo P md ops Q S g n 0 listed a w := by
  refine ⟨fun j hj => of_decide_eq_true (List.all_eq_true.1 hn j hj), ?_⟩
  subst hg
  refine wpAny_of_seq l n listed a w (fun j => ?_) hB h
  rw [← hl, List.getElem?_drop, Array.getElem?_toList]
theorem region_two {id : Nat} {a : Act} {w : World} (n g : Nat) (S : World → Prop) (hng : ops.size = n + g) (hm : P.follows .mixedOrders = true) (hS : S w.drew)
    (h : S w.drew → wpTwo P .any ops Q S g n n (Array.replicate ops.size false) a w.drew) : (Code.region id ops true).wp P Q a w := by
  refine wp_region_any hm ?_
  rw [hng]
  have := wpAny_of_two n (Array.replicate ops.size false) a w.drew (h hS)
  rw [hng] at this
  exact this
end
end Go.Proofs.Ythgodpmahdnnjaa.Two
end
section
namespace Go.Proofs.Ythgodpmahdnnjaa
open Go.RowKit Go.Proofs.YthgodpmahdnnjaaW.PrintWords Go.Proofs.YthgodpmahdnnjaaW.PrintMore Go.Proofs.Ythgodpmahdnnjaa.H
def lstN (I : Nat → Nat) (i : Nat) : List (List Int) := (List.range i).map fun b => listN (I b)
theorem lstN_length (I : Nat → Nat) (i : Nat) : (lstN I i).length = i := by simp [lstN]
theorem lstN_succ (I : Nat → Nat) (i : Nat) : lstN I (i + 1) = lstN I i ++ [listN (I i)] := by simp [lstN, List.range_succ]
theorem listN_le (m : Nat) : (listN m).length ≤ 40 := by
  unfold listN
  rw [List.length_map]
  exact Nat.le_trans (List.length_filter_le _ _) (by simp)
structure SolT (n base : Nat) (w : World) (gi go_ : Nat) (V : Nat → Nat → Value) (R : Nat) (I O : Nat → Nat) : Prop where
  hi : w.heap[gi]? = some (.cells (rowF (V 0) n) 75 (0, 0))
  ho : w.heap[go_]? = some (.cells (rowF (V 1) n) 75 (0, 0))
  own : ∀ b, b < n → Own1 0 w base (V 0 b) (rowN R (I b)) ∧ Own1 1 w base (V 1 b) (rowN R (O b))
theorem SolT.ty {n base : Nat} {w w1 : World} {gi go_ : Nat} {V : Nat → Nat → Value} {R : Nat} {I O : Nat → Nat} {S : Nat → Prop} {T : TypeId → Prop} (h : SolT n base w gi go_ V R I O) (hk : Kept w w1 S) (hS : TyS w S T) (h1 : ¬ T 75) (h2 : ¬ T 113) : SolT n base w1 gi go_ V R I O :=
  ⟨blk_ty h.hi hk hS h1, blk_ty h.ho hk hS h1, fun b hb => ⟨(h.own b hb).1.ty hk hS h2, (h.own b hb).2.ty hk hS h2⟩⟩
theorem SolT.below {n base : Nat} {w w1 : World} {gi go_ : Nat} {V : Nat → Nat → Value} {R : Nat} {I O : Nat → Nat} (h : SolT n base w gi go_ V R I O) (hb : Below w.heap.size w w1) : SolT n base w1 gi go_ V R I O :=
  h.ty (S := fun _ => False) (T := fun _ => False) (Kept.of_below hb _) (fun _ hk => hk.elim) (fun h => h) (fun h => h)
structure OfW (n base : Nat) (w0 w : World) (gi go_ g6 g5 : Nat) (V : Nat → Nat → Value) (R : Nat) (I O : Nat → Nat) (sI sO : Value) : Prop where
  sol : SolT n base w gi go_ V R I O
  box : w.heap[g6]? = some (.cells #[sI, sO] 30 (0, 0))
  box5 : w.heap[g5]? = some (.cells #[.slice none 0 0, .slice none 0 0] 30 (0, 0))
  below : Below w0.heap.size w0 w
section
variable {n base : Nat} {w0 w w1 : World} {gi go_ g6 g5 : Nat} {V : Nat → Nat → Value} {R : Nat} {I O : Nat → Nat} {sI sO : Value}
theorem OfW.step (h : OfW n base w0 w gi go_ g6 g5 V R I O sI sO) (hb : Below w.heap.size w w1) : OfW n base w0 w1 gi go_ g6 g5 V R I O sI sO :=
  ⟨h.sol.below hb, heap_below h.box hb, heap_below h.box5 hb, h.below.trans (hb.mono h.below.size)⟩
theorem app_kept {e : TypeId} {v : Value} {k : Nat} {xs : List Value} (h : w.ownsRow base e 1 v k xs) (hg : w.grownBy w1 v.ownBlock) : Kept w w1 (fun k => v.ownBlock = some k) ∧ TyS w (fun k => v.ownBlock = some k) (fun t => t = e) :=
  ⟨Kept.of_grown hg (Kept.refl _ _) (fun k hk => .inl hk), fun k hk _ => by obtain ⟨cs, hcs⟩ := row_cells h k hk; exact ⟨cs, _, hcs, rfl⟩⟩
theorem OfW.app {v : Value} {k : Nat} {xs : List Value} (hb : w0.heap.size ≤ base) (h : OfW n base w0 w gi go_ g6 g5 V R I O sI sO) (ho : w.ownsRow base 39 1 v k xs) (hg : w.grownBy w1 v.ownBlock) : OfW n base w0 w1 gi go_ g6 g5 V R I O sI sO := by
  obtain ⟨hk, hS⟩ := app_kept ho hg
  exact ⟨h.sol.ty hk hS (by decide) (by decide), blk_ty h.box hk hS (by decide), blk_ty h.box5 hk hS (by decide), h.below.grown hg h.below.size (fun j hj => Nat.le_trans hb (ho.lt j hj).1)⟩
theorem OfW.cells (h : OfW n base w0 w gi go_ g6 g5 V R I O sI sO) {i : Nat} (hi : i < n) : w.cell? ⟨gi, i, none⟩ = some (V 0 i) ∧ w.cell? ⟨go_, i, none⟩ = some (V 1 i) ∧ w.cell? ⟨g6, 0, none⟩ = some sI ∧ w.cell? ⟨g6, 1, none⟩ = some sO ∧ w.frozen? ⟨g6, 0, none⟩ = false ∧ w.frozen? ⟨g6, 1, none⟩ = false :=
  ⟨(cell_of_row h.sol.hi (rowF_get hi)).1, (cell_of_row h.sol.ho (rowF_get hi)).1, (cells2 h.box).1, (cells2 h.box).2, blk_frozen h.box 0, blk_frozen h.box 1⟩
theorem OfW.list0 (h : OfW n base w0 w gi go_ g6 g5 V R I O sI sO) {i : Nat} (hi : i < n) (hR : R ≤ 40) (hm : I i < 2 ^ R) {A : Option Addr} {c : Nat} (e : V 0 i = .slice A (rowN R (I i)).length c) :
    Calls Try.prog 37 #[.slice A (rowN R (I i)).length c] w fun e w' => ∃ v0_ : Value, e = .returned (v0_) ∧ Kd.R (Kd.int .i64) 3 w' w.heap.size (fun _ => True) v0_ (listN (I i)) ∧ Below w.heap.size w w' := by
  have h1 := (h.sol.own i hi).1
  rw [e] at h1
  obtain ⟨_, hl, hC⟩ := Kd.R_reads' (h1.R0 (t := 0) (ok := fun _ => True) (fun _ _ => trivial))
  exact liveness_set_list.calls 70 A c (rowN R (I i)) _ w hC hl (list_f hR hm (Nat.le_refl _))
theorem OfW.list1 (h : OfW n base w0 w gi go_ g6 g5 V R I O sI sO) {i : Nat} (hi : i < n) (hR : R ≤ 40) (hm : O i < 2 ^ R) {A : Option Addr} {c : Nat} (e : V 1 i = .slice A (rowN R (O i)).length c) :
    Calls Try.prog 37 #[.slice A (rowN R (O i)).length c] w fun e w' => ∃ v0_ : Value, e = .returned (v0_) ∧ Kd.R (Kd.int .i64) 3 w' w.heap.size (fun _ => True) v0_ (listN (O i)) ∧ Below w.heap.size w w' := by
  have h1 := (h.sol.own i hi).2
  rw [e] at h1
  obtain ⟨_, hl, hC⟩ := Kd.R_reads' (h1.R0 (t := 1) (ok := fun _ => True) (fun _ _ => trivial))
  exact liveness_set_list.calls 70 A c (rowN R (O i)) _ w hC hl (list_f hR hm (Nat.le_refl _))
theorem step_rows {ops : Array Oper} {o : Oper} {a : Act} {K : Act → World → Prop} {Q : Exit → Act → World → Prop} {E : Prop} {w8 : World} {i : Nat} {xs : List Value} (v x : Value) (hgd : o.guard = none) (s y : Operand)
    (ho : o.op = .call { callee := .builtin .append, args := #[s, y], argTypes := #[28, 28] }) (hs : a.eval s = v) (hx : a.eval y = .slice (some ⟨w8.heap.size, 0, none⟩) 1 1)
    (hown : w8.ownsRow base 39 1 v i xs) (h1 : x.oneCell' = true) (hi : i ≤ 1000) (hb : base ≤ w8.heap.size)
    (h : ∀ g cap w', w'.ownsRow base 39 1 (.slice (some ⟨g, 0, none⟩) (i + 1) cap) (i + 1) (xs ++ [x]) → w8.grownBy w' v.ownBlock → (v.ownBlock = some g ∨ w8.heap.size ≤ g) → K (a.put o.dst (.slice (some ⟨g, 0, none⟩) (i + 1) cap)) w') :
    if Region.wanted o (yielded ops a.tmps) = true then Oper.wp Try.prog o a (w8.alloc (.cells #[x] 39)) K Q else E := by
  obtain ⟨i0, hi0, hz0, hz1, hz2⟩ := info_parts (show (Try.prog.info? 39).map (fun i => (i.zero, i.size, i.bytes)) = some (some (.slice none 0 0), 1, 24) by kernel_rfl)
  have hsz : (w8.alloc (.cells #[x] 39)).heap.size = w8.heap.size + 1 := alloc_size1 _ _
  refine step_append_lies _ hgd s y 28 ho base 39 i0 (.slice none 0 0) 1 24 Try.underlying28 hi0 hz0 hz1 hz2 rfl (by decide) v i xs hs (hown.alloc _) ⟨w8.heap.size, 0, none⟩ 1 1 [x] hx rfl
    (World.news_of_block (cs := #[x]) (World.alloc_heap_new w8 _)) (fun u hu => by rw [List.mem_singleton.1 hu]; exact h1) (by decide) (by simp [maxLen]; omega) (by omega) (by omega) _ rfl ?_
  intro g cap w' ho' hg' hat _
  refine h g cap w' ho' ⟨hg'.os, hg'.tape, hg'.output, by have := hg'.size; omega, fun k hk hne => (hg'.block k (by omega) hne).trans (Below.heap_alloc w8 _ k hk)⟩ ?_
  rcases hat with hat | hat
  · exact .inl hat
  · right; rw [hat, hsz]; omega
theorem rows_in {w w1 : World} {v : Value} {i : Nat} {xs : List Value} (h : w.ownsRow base 39 1 v i xs) (hb : Below w.heap.size w w1) : w1.ownsRow base 39 1 v i xs := own_move h fun k hk => hb.block k (h.lt k hk).2
theorem of_leaf {wo w8 w9 w10 w11 : World} {i g9 c9 g11 c11 : Nat} {xsI xsO : List Value} {r8 r10 : Value} (hg5w : w0.heap.size ≤ g6) (hne : g5 ≠ g6) (hbw : w0.heap.size ≤ base)
    (hxl : xsI.length = i) (hyl : xsO.length = i) (hoI : wo.ownsRow base 39 1 sI i xsI) (hoO : wo.ownsRow base 39 1 sO i xsO)
    (hxI : ∀ j, j < i → Own1 3 wo base (xsI.getD j undef) ((lstN I i).getD j [])) (hxO : ∀ j, j < i → Own1 3 wo base (xsO.getD j undef) ((lstN O i).getD j [])) (hbase : base ≤ wo.heap.size)
    (hsep : ∀ k, sI.ownBlock = some k → sO.ownBlock ≠ some k) (hb8 : Below wo.heap.size wo w8) (hr8 : Own1 3 w8 wo.heap.size r8 (listN (I i)))
    (hg9 : w8.grownBy w9 sI.ownBlock) (ho9 : w9.ownsRow base 39 1 (.slice (some ⟨g9, 0, none⟩) (i + 1) c9) (i + 1) (xsI ++ [r8])) (ha9 : sI.ownBlock = some g9 ∨ w8.heap.size ≤ g9)
    (hb10 : Below w9.heap.size w9 w10) (hr10 : Own1 3 w10 w9.heap.size r10 (listN (O i)))
    (hg11 : w10.grownBy w11 sO.ownBlock) (ho11 : w11.ownsRow base 39 1 (.slice (some ⟨g11, 0, none⟩) (i + 1) c11) (i + 1) (xsO ++ [r10])) (ha11 : sO.ownBlock = some g11 ∨ w10.heap.size ≤ g11)
    (hW11 : OfW n base w0 w11 gi go_ g6 g5 V R I O sI sO) :
    OfW n base w0 ((w11.setCell ⟨g6, 0, none⟩ (.slice (some ⟨g9, 0, none⟩) (i + 1) c9)).setCell ⟨g6, 1, none⟩ (.slice (some ⟨g11, 0, none⟩) (i + 1) c11)) gi go_ g6 g5 V R I O (.slice (some ⟨g9, 0, none⟩) (i + 1) c9) (.slice (some ⟨g11, 0, none⟩) (i + 1) c11) ∧
    RowsOf ((w11.setCell ⟨g6, 0, none⟩ (.slice (some ⟨g9, 0, none⟩) (i + 1) c9)).setCell ⟨g6, 1, none⟩ (.slice (some ⟨g11, 0, none⟩) (i + 1) c11)) base (.slice (some ⟨g9, 0, none⟩) (i + 1) c9) (lstN I (i + 1)) ∧
    RowsOf ((w11.setCell ⟨g6, 0, none⟩ (.slice (some ⟨g9, 0, none⟩) (i + 1) c9)).setCell ⟨g6, 1, none⟩ (.slice (some ⟨g11, 0, none⟩) (i + 1) c11)) base (.slice (some ⟨g11, 0, none⟩) (i + 1) c11) (lstN O (i + 1)) ∧
    (∀ k, (Value.slice (some ⟨g9, 0, none⟩) (i + 1) c9).ownBlock = some k → (Value.slice (some ⟨g11, 0, none⟩) (i + 1) c11).ownBlock ≠ some k) := by
  have hlO := hoO.lt
  have hlI := hoI.lt
  have hs8 := hb8.size
  have hs9 := hg9.size
  have hs10 := hb10.size
  have hoI8 := rows_in hoI hb8
  have hxI8 : ∀ j, j < (lstN I i).length → Own1 3 w8 base (xsI.getD j undef) ((lstN I i).getD j []) := fun j hj => (hxI j (by rwa [lstN_length] at hj)).kept (Kept.of_below hb8 (fun _ => False)) (fun _ _ h => h)
  have hR9 : RowsOf w9 base (.slice (some ⟨g9, 0, none⟩) (i + 1) c9) (lstN I (i + 1)) := by
    rw [lstN_succ]
    exact RowsOf.snoc (by rw [lstN_length]; exact hxl) (by rw [lstN_length]; exact hoI8) hxI8 (hr8.lower hbase) hg9 (by rw [lstN_length]; exact ho9)
  have hR10 := hR9.below hb10
  have hg9O : ¬ sO.ownBlock = some g9 := fun e => by
    rcases ha9 with h | h
    · exact hsep g9 h e
    · have := hlO g9 e; omega
  obtain ⟨hk9, hS9⟩ := app_kept hoI8 hg9
  have hoO9 : w9.ownsRow base 39 1 sO i xsO := own_move (rows_in hoO hb8) fun k hk => hg9.block k (by have := hlO k hk; omega) (fun e => hsep k e.symm hk)
  have hoO10 := rows_in hoO9 hb10
  have hxO10 : ∀ j, j < (lstN O i).length → Own1 3 w10 base (xsO.getD j undef) ((lstN O i).getD j []) := fun j hj =>
    (((hxO j (by rwa [lstN_length] at hj)).kept (Kept.of_below hb8 (fun _ => False)) (fun _ _ h => h)).ty hk9 hS9 (by decide)).kept (Kept.of_below hb10 (fun _ => False)) (fun _ _ h => h)
  have hR11 : RowsOf w11 base (.slice (some ⟨g11, 0, none⟩) (i + 1) c11) (lstN O (i + 1)) := by
    rw [lstN_succ]
    exact RowsOf.snoc (by rw [lstN_length]; exact hyl) (by rw [lstN_length]; exact hoO10) hxO10 (hr10.lower (by omega)) hg11 (by rw [lstN_length]; exact ho11)
  obtain ⟨hk11, hS11⟩ := app_kept hoO10 hg11
  have hRI11 : RowsOf w11 base (.slice (some ⟨g9, 0, none⟩) (i + 1) c9) (lstN I (i + 1)) := hR10.ty hk11 hS11 (by decide) (fun k hk => by simp [Value.ownBlock] at hk; subst hk; exact hg9O)
  have hl9 : g9 < w9.heap.size := (hR9.lt g9 rfl).2
  have hkf : Kept w11 ((w11.setCell ⟨g6, 0, none⟩ (.slice (some ⟨g9, 0, none⟩) (i + 1) c9)).setCell ⟨g6, 1, none⟩ (.slice (some ⟨g11, 0, none⟩) (i + 1) c11)) (fun k => k = g6) :=
    (kept_set (S := fun k => k = g6) rfl 0 _).then_ (kept_set (S := fun k => k = g6) rfl 1 _) (fun k hk => .inl hk)
  have hSf : TyS w11 (fun k => k = g6) (fun t => t = 30) := fun k hk _ => by subst hk; exact ⟨_, _, hW11.box, rfl⟩
  have hnb : ∀ {v : Value} {ls : List (List Int)}, RowsOf w11 base v ls → ∀ k, v.ownBlock = some k → ¬ k = g6 := fun h k hk e => by
    subst e
    obtain ⟨cs, hcs⟩ := h.cells _ hk
    rw [hW11.box] at hcs
    injection hcs with h1
    injection h1 with _ h2 _
    exact absurd h2 (by decide)
  refine ⟨⟨hW11.sol.ty hkf hSf (by decide) (by decide), blk_put (blk_put hW11.box 0 _ rfl) 1 _ rfl, (hkf.2 g5 (heap_lt hW11.box5) hne).trans hW11.box5, (hW11.below.setCell (p := ⟨g6, 0, none⟩) hg5w _).setCell (p := ⟨g6, 1, none⟩) hg5w _⟩, hRI11.ty hkf hSf (by decide) (hnb hRI11), hR11.ty hkf hSf (by decide) (hnb hR11), fun k hk => ?_⟩
  simp [Value.ownBlock] at hk ⊢
  subst hk
  rcases ha11 with h | h
  · exact fun e => hg9O (by rw [h, e])
  · omega
end
set_option maxHeartbeats 8000000 in
set_option maxRecDepth 100000 in
theorem Of_calls (nm : ByteArray) (R : Int) (hR : R ≤ 30) (A2 : Option Addr) (c2 n2 : Nat) (A3 : Option Addr) (c3 : Nat) (B : List S43) (w : World)
    (hC3 : k43.C w A3 B.length B) (hc3 : B.length ≤ c3) (hn : B.length ≤ 30) (hcode : ∀ x ∈ B, x.f0.length ≤ 1000) :
    Calls Try.prog 10 #[.agg #[.string nm, .int .i64 R, .slice A2 n2 c2, .slice A3 B.length c3]] w
      fun e w' => ((wfB R B = false ∧ e = .returned (.tuple #[.agg #[.slice none 0 0, .slice none 0 0], .int .i64 3])) ∨
        (∃ (N : Nat) (vi vo : Value) (I O : Nat → Nat), R = N ∧ OkF N B ∧ e = .returned (.tuple #[.agg #[vi, vo], .int .i64 0]) ∧ SI N B I O [] ∧ RowsOf w' w.heap.size vi (lstN I B.length) ∧ RowsOf w' w.heap.size vo (lstN O B.length))) ∧ Below w.heap.size w w' := by
  have hn1 : B.length ≤ 1000 := by omega
  have HC3 := Lib.hid hC3
  have HCD := Lib.hid hcode
  clear hC3 hcode
  obtain ⟨o, ho⟩ : ∃ o, o = wfB R B := ⟨_, rfl⟩
  rw [← ho]
  have HO := Lib.hid ho
  clear ho
  cases o with
  | false =>
    go_enter Try.func10, Try.ntmps10
    go_wp2_with (first
      | ((with_reducible refine gate_dst (N := 1) rfl ?_); refine box_event ?hg (N := 1) ?hd (cs := #[.string nm, .int .i64 R, .slice A2 n2 c2, .slice A3 B.length c3]) (t := 25) ?hr ?_; (case hd => rfl); (case hg => rfl); (case hr => first | (go_simp; done) | (go_simp; rfl)); intro g hg w3 hbox hbw; have BK := Lib.hid hbox; have HBW := Lib.hid hbw; clear hbox hbw; have HG := Lib.hid hg; clear hg)
      | ((with_reducible refine gate_dst (N := 2) rfl ?_); refine box_event ?hg (N := 2) ?hd (cs := #[.slice none 0 0, .slice none 0 0]) (t := 30) ?hr ?_; (case hd => rfl); (case hg => rfl); (case hr => first | (go_simp; done) | (go_simp; rfl)); intro g5 hg5 w5 hbox5 hbw5; have BK5 := Lib.hid hbox5; have HBW5 := Lib.hid hbw5; have BKA := Lib.hid (heap_below BK.out hbw5); clear hbox5 hbw5; obtain ⟨z0, z1, z2, z3⟩ := cells4 BKA.out; have HG5 := Lib.hid hg5; clear hg5)
      | (go_at_call 35; refine (wf_calls nm R A2 c2 n2 A3 c3 B _ (Kd.C_below (Kd.C_below HC3.out HBW.out) HBW5.out) hc3 hn1 HCD.out).mono ?_; rw [← HO.out]; rintro e w6 ⟨rfl, hb6⟩; have HB6 := Lib.hid hb6; have BKC := Lib.hid (heap_below BK5.out hb6); clear hb6 z0 z1 z2 z3; obtain ⟨y0, y1⟩ := cells2 BKC.out; have f0 := blk_frozen BKC.out 0; have f1 := blk_frozen BKC.out 1)
      | fail)
    have hg5l : w.heap.size ≤ g5 := by rw [HG5.out]; exact HBW.out.size
    have hb06 : Below w.heap.size w w6 := HBW.out.trans ((HBW5.out.trans (HB6.out.mono HBW5.out.size)).mono HBW.out.size)
    have hk : ((w6.setCell ⟨g5, 0, none⟩ (.slice none 0 0)).setCell ⟨g5, 1, none⟩ (.slice none 0 0)).heap[g5]? = some (.cells #[.slice none 0 0, .slice none 0 0] 30 (0, 0)) := blk_put (blk_put BKC.out 0 _ rfl) 1 _ rfl
    have HX := Lib.hid ((hb06.setCell (p := ⟨g5, 0, none⟩) hg5l (.slice none 0 0)).setCell (p := ⟨g5, 1, none⟩) hg5l (.slice none 0 0))
    obtain ⟨wz, hwz⟩ : ∃ wz, wz = ((w6.setCell ⟨g5, 0, none⟩ (.slice none 0 0)).setCell ⟨g5, 1, none⟩ (.slice none 0 0)) := ⟨_, rfl⟩
    rw [← hwz] at hk HX ⊢
    clear hwz y0 y1 f0 f1
    obtain ⟨y0, y1⟩ := cells2 hk
    (try simp only [Exit.inBlock, Exit.then])
    refine bodyPost_ret (v := .tuple #[.agg #[.slice none 0 0, .slice none 0 0], .int .i64 3]) ?hr rfl ?_
    case hr =>
      unfold results
      rw [show Try.f10.results = #[.cell 2 30, .tmp 3] from rfl]
      simp
      go_simp
    exact ⟨.inl ⟨trivial, rfl⟩, HX.out⟩
  | true =>
    obtain ⟨N, rfl, hN, hF⟩ := (wfB_iff R B).1 HO.out.symm
    have HF := Lib.hid hF
    have hNR : N ≤ 30 := by omega
    clear hF
    go_enter Try.func10, Try.ntmps10
    go_upto_region 6 with (first
      | ((with_reducible refine gate_dst (N := 1) rfl ?_); refine box_event ?hg (N := 1) ?hd (cs := #[.string nm, .int .i64 N, .slice A2 n2 c2, .slice A3 B.length c3]) (t := 25) ?hr ?_; (case hd => rfl); (case hg => rfl); (case hr => first | (go_simp; done) | (go_simp; rfl)); intro g hg w3 hbox hbw; have BK := Lib.hid hbox; have HBW := Lib.hid hbw; clear hbox hbw; have HG := Lib.hid hg; clear hg)
      | ((with_reducible refine gate_dst (N := 2) rfl ?_); refine box_event ?hg (N := 2) ?hd (cs := #[.slice none 0 0, .slice none 0 0]) (t := 30) ?hr ?_; (case hd => rfl); (case hg => rfl); (case hr => first | (go_simp; done) | (go_simp; rfl)); intro g5 hg5 w5 hbox5 hbw5; have BK5 := Lib.hid hbox5; have HBW5 := Lib.hid hbw5; have BKA := Lib.hid (heap_below BK.out hbw5); clear hbox5 hbw5; obtain ⟨z0, z1, z2, z3⟩ := cells4 BKA.out; have HG5 := Lib.hid hg5; clear hg5)
      | (go_at_call 35; refine (wf_calls nm N A2 c2 n2 A3 c3 B _ (Kd.C_below (Kd.C_below HC3.out HBW.out) HBW5.out) hc3 hn1 HCD.out).mono ?_; rw [← HO.out]; rintro e w6 ⟨rfl, hb6⟩; have HB6 := Lib.hid hb6; have BKB := Lib.hid (heap_below BKA.out hb6); have BKC := Lib.hid (heap_below BK5.out hb6); clear hb6 z0 z1 z2 z3; obtain ⟨z0, z1, z2, z3⟩ := cells4 BKB.out)
      | (go_at_call 36; refine (solve_calls nm N hNR A2 c2 n2 A3 c3 B _ (Kd.C_below (Kd.C_below (Kd.C_below HC3.out HBW.out) HBW5.out) HB6.out) hc3 hn HCD.out HF.out).mono ?_; rintro e w7 ⟨gi, go_, V, I, O, rfl, hsi, hown, hgi, hgo, hb7, _, _⟩; have HSI := Lib.hid hsi; have HOWN := Lib.hid hown; have HGI := Lib.hid hgi; have HGO := Lib.hid hgo; have HB7 := Lib.hid hb7; clear hsi hown hgi hgo hb7 z0 z1 z2 z3)
      | ((with_reducible refine gate_dst (N := 6) rfl ?_); refine box_event ?hg (N := 6) ?hd (cs := #[.slice none 0 0, .slice none 0 0]) (t := 30) ?hr ?_; (case hd => rfl); (case hg => rfl); (case hr => first | (go_simp; done) | (go_simp; rfl)); intro g6 hg6 w8 hbox6 hbw6; have BK6 := Lib.hid hbox6; have HBW6 := Lib.hid hbw6; have HG6 := Lib.hid hg6; clear hbox6 hbw6 hg6)
      | fail)
    have h07 : w.heap.size ≤ w6.heap.size := (HBW.out.trans ((HBW5.out.trans (HB6.out.mono HBW5.out.size)).mono HBW.out.size)).size
    have hw5 : w.heap.size ≤ w5.heap.size := (HBW.out.trans (HBW5.out.mono HBW.out.size)).size
    have hb08 : Below w.heap.size w w8 := (HBW.out.trans ((HBW5.out.trans (HB6.out.mono HBW5.out.size)).mono HBW.out.size)).trans ((HB7.out.trans (HBW6.out.mono HB7.out.size)).mono h07)
    have hW0 : OfW B.length w.heap.size w w8 gi go_ g6 g5 V N I O (.slice none 0 0) (.slice none 0 0) :=
      ⟨SolT.below ⟨HGI.out, HGO.out, fun b hb => ⟨(HOWN.out b hb).1.lower h07, (HOWN.out b hb).2.lower h07⟩⟩ HBW6.out, BK6.out, heap_below (heap_below BKC.out HB7.out) HBW6.out, hb08⟩
    have HW0 := Lib.hid hW0
    have hg6w : w.heap.size ≤ g6 := by rw [HG6.out]; exact Nat.le_trans h07 HB7.out.size
    have hg5w : w.heap.size ≤ g5 := by rw [HG5.out]; exact HBW.out.size
    have hg56 : g5 ≠ g6 := by
      have := heap_lt (heap_below BKC.out HB7.out); rw [HG6.out]; omega
    clear hW0 hb08 h07 hw5 HG HG5 HG6 BK BKA BKB BKC BK5 BK6 HBW HBW5 HBW6 HB6 HB7 HGI HGO HOWN
    have HI := Lib.hid (show (Try.prog.info? 39).map (fun i => (i.zero, i.size, i.bytes)) = some (some (.slice none 0 0), 1, 24) by kernel_rfl)
    go_loopg [19] (B.length) (fun k v19 wr => ∃ (i : Nat) (sI sO : Value), i ≤ B.length ∧ k = B.length - i ∧ v19 = .int .i64 i ∧ OfW B.length w.heap.size w wr gi go_ g6 g5 V N I O sI sO ∧ RowsOf wr w.heap.size sI (lstN I i) ∧ RowsOf wr w.heap.size sO (lstN O i) ∧ (∀ k, sI.ownBlock = some k → sO.ownBlock ≠ some k))
    case atStart => exact ⟨0, _, _, Nat.zero_le _, rfl, rfl, HW0.out, RowsOf.nil _ _, RowsOf.nil _ _, fun k hk => by cases hk⟩
    case round =>
      obtain ⟨i, sI, sO, hi, rfl, rfl, hW, hRI, hRO, hsep⟩ := hrel
      obtain ⟨wo, rfl⟩ : ∃ wo, wo = wr := ⟨_, rfl⟩
      have HW := Lib.hid hW
      have HRI := Lib.hid hRI
      have HRO := Lib.hid hRO
      have HSEP := Lib.hid hsep
      clear hW hRI hRO hsep HW0
      by_cases hlt : i < B.length
      · obtain ⟨i0, hi0, hz0, hz1, hz2⟩ := info_parts HI.out
        have HI0 := Lib.hid hi0
        have HZ0 := Lib.hid hz0
        have HZ1 := Lib.hid hz1
        have HZ2 := Lib.hid hz2
        obtain ⟨xsI, hxl, hownI, hxI⟩ := HRI.out
        obtain ⟨xsO, hyl, hownO, hxO⟩ := HRO.out
        rw [lstN_length] at hxl hownI hxI hyl hownO hxO
        have HOWNI := Lib.hid hownI
        have HOWNO := Lib.hid hownO
        have HXI := Lib.hid hxI
        have HXO := Lib.hid hxO
        obtain ⟨Ai, ci, ei, _, _⟩ := Kd.R_reads ((HW.out.sol.own i hlt).1.R0 (t := 0) (ok := fun _ => True) (fun _ _ => trivial))
        obtain ⟨Ao, co, eo, _, _⟩ := Kd.R_reads ((HW.out.sol.own i hlt).2.R0 (t := 1) (ok := fun _ => True) (fun _ _ => trivial))
        have HEI := Lib.hid ei
        have HEO := Lib.hid eo
        have hlI := (HSI.out.lt i hlt).1
        have hlO := (HSI.out.lt i hlt).2
        clear hi0 hz0 hz1 hz2 hownI hownO hxI hxO ei eo
        obtain ⟨q1, q2, y0, y1, fy0, fy1⟩ := HW.out.cells hlt
        rw [HEI.out] at q1
        rw [HEO.out] at q2
        go_upto_region 8 with fail
        have hb : w.heap.size ≤ wo.heap.size := HW.out.below.size
        have hli : i ≤ 1000 := by omega
        have hN40 : N ≤ 40 := by omega
        refine Two.region_two 19 3 (fun w' => w'.cell? ⟨gi, i, none⟩ = some (.slice Ai (rowN N (I i)).length ci) ∧ w'.cell? ⟨go_, i, none⟩ = some (.slice Ao (rowN N (O i)).length co) ∧ w'.cell? ⟨g6, 0, none⟩ = some sI ∧ w'.cell? ⟨g6, 1, none⟩ = some sO) rfl (by kernel_rfl) (⟨by assumption, by assumption, by assumption, by assumption⟩) (fun hHeld => ?_)
        refine Two.take (v := ?_) 0 rfl (Or.inl ⟨by rfl, ?_⟩) rfl (by kernel_rfl) (by kernel_rfl) (by kernel_rfl) (by kernel_rfl) (by kernel_rfl) (fun _ _ _ h => h) (by assumption) ?_
        rotate_left
        · intro w' hSw
          try dsimp only at hSw
          go_simp
          try with_reducible rfl
        try simp only [Act.put, List.setIfInBounds_toArray, List.set_cons_zero, List.set_cons_succ]
        refine Two.take (v := ?_) 1 rfl (Or.inl ⟨by rfl, ?_⟩) rfl (by kernel_rfl) (by kernel_rfl) (by kernel_rfl) (by kernel_rfl) (by kernel_rfl) (fun _ _ _ h => h) (by assumption) ?_
        rotate_left
        · intro w' hSw
          try dsimp only at hSw
          go_simp
          try with_reducible rfl
        try simp only [Act.put, List.setIfInBounds_toArray, List.set_cons_zero, List.set_cons_succ]
        refine Two.take (v := ?_) 2 rfl (Or.inl ⟨by rfl, ?_⟩) rfl (by kernel_rfl) (by kernel_rfl) (by kernel_rfl) (by kernel_rfl) (by kernel_rfl) (fun _ _ _ h => h) (by assumption) ?_
        rotate_left
        · intro w' hSw
          try dsimp only at hSw
          go_simp
          try with_reducible rfl
        try simp only [Act.put, List.setIfInBounds_toArray, List.set_cons_zero, List.set_cons_succ]
        refine Two.take (v := ?_) 3 rfl (Or.inl ⟨by rfl, ?_⟩) rfl (by kernel_rfl) (by kernel_rfl) (by kernel_rfl) (by kernel_rfl) (by kernel_rfl) (fun _ _ _ h => h) (by assumption) ?_
        rotate_left
        · intro w' hSw
          try dsimp only at hSw
          go_simp
          try with_reducible rfl
        try simp only [Act.put, List.setIfInBounds_toArray, List.set_cons_zero, List.set_cons_succ]
        refine Two.take (v := ?_) 4 rfl (Or.inl ⟨by rfl, ?_⟩) rfl (by kernel_rfl) (by kernel_rfl) (by kernel_rfl) (by kernel_rfl) (by kernel_rfl) (fun _ _ _ h => h) (by assumption) ?_
        rotate_left
        · intro w' hSw
          try dsimp only at hSw
          go_simp
          try with_reducible rfl
        try simp only [Act.put, List.setIfInBounds_toArray, List.set_cons_zero, List.set_cons_succ]
        refine Two.take (v := ?_) 5 rfl (Or.inl ⟨by rfl, ?_⟩) rfl (by kernel_rfl) (by kernel_rfl) (by kernel_rfl) (by kernel_rfl) (by kernel_rfl) (fun _ _ _ h => h) (by assumption) ?_
        rotate_left
        · intro w' hSw
          try dsimp only at hSw
          go_simp
          try with_reducible rfl
        try simp only [Act.put, List.setIfInBounds_toArray, List.set_cons_zero, List.set_cons_succ]
        refine Two.take (v := ?_) 9 rfl (Or.inl ⟨by rfl, ?_⟩) rfl (by kernel_rfl) (by kernel_rfl) (by kernel_rfl) (by kernel_rfl) (by kernel_rfl) (fun _ _ _ h => h) (by assumption) ?_
        rotate_left
        · intro w' hSw
          try dsimp only at hSw
          go_simp
          try with_reducible rfl
        try simp only [Act.put, List.setIfInBounds_toArray, List.set_cons_zero, List.set_cons_succ]
        refine Two.take (v := ?_) 10 rfl (Or.inl ⟨by rfl, ?_⟩) rfl (by kernel_rfl) (by kernel_rfl) (by kernel_rfl) (by kernel_rfl) (by kernel_rfl) (fun _ _ _ h => h) (by assumption) ?_
        rotate_left
        · intro w' hSw
          try dsimp only at hSw
          go_simp
          try with_reducible rfl
        try simp only [Act.put, List.setIfInBounds_toArray, List.set_cons_zero, List.set_cons_succ]
        refine Two.take (v := ?_) 11 rfl (Or.inl ⟨by rfl, ?_⟩) rfl (by kernel_rfl) (by kernel_rfl) (by kernel_rfl) (by kernel_rfl) (by kernel_rfl) (fun _ _ _ h => h) (by assumption) ?_
        rotate_left
        · intro w' hSw
          try dsimp only at hSw
          go_simp
          try with_reducible rfl
        try simp only [Act.put, List.setIfInBounds_toArray, List.set_cons_zero, List.set_cons_succ]
        refine Two.take (v := ?_) 12 rfl (Or.inl ⟨by rfl, ?_⟩) rfl (by kernel_rfl) (by kernel_rfl) (by kernel_rfl) (by kernel_rfl) (by kernel_rfl) (fun _ _ _ h => h) (by assumption) ?_
        rotate_left
        · intro w' hSw
          try dsimp only at hSw
          go_simp
          try with_reducible rfl
        try simp only [Act.put, List.setIfInBounds_toArray, List.set_cons_zero, List.set_cons_succ]
        refine Two.take (v := ?_) 13 rfl (Or.inl ⟨by rfl, ?_⟩) rfl (by kernel_rfl) (by kernel_rfl) (by kernel_rfl) (by kernel_rfl) (by kernel_rfl) (fun _ _ _ h => h) (by assumption) ?_
        rotate_left
        · intro w' hSw
          try dsimp only at hSw
          go_simp
          try with_reducible rfl
        try simp only [Act.put, List.setIfInBounds_toArray, List.set_cons_zero, List.set_cons_succ]
        refine Two.take (v := ?_) 14 rfl (Or.inl ⟨by rfl, ?_⟩) rfl (by kernel_rfl) (by kernel_rfl) (by kernel_rfl) (by kernel_rfl) (by kernel_rfl) (fun _ _ _ h => h) (by assumption) ?_
        rotate_left
        · intro w' hSw
          try dsimp only at hSw
          go_simp
          try with_reducible rfl
        try simp only [Act.put, List.setIfInBounds_toArray, List.set_cons_zero, List.set_cons_succ]
        refine Two.step 6 rfl (by kernel_rfl) (fun K hK => ?_)
        go_simp
        go_at_call 37
        refine (OfW.list0 (HW.out.step (Below.refl _ _).drew) hlt hN40 hlI HEI.out).mono ?_
        rintro e w8 ⟨v8, rfl, hR8, hb8⟩
        have hb8' := (Below.refl wo.heap.size wo).drew.trans hb8
        obtain ⟨A8, c8, rfl⟩ := Kd.R_slice hR8
        have HR8 := Lib.hid (Own1.of_R0 (t := 3) hR8)
        have HB8 := Lib.hid hb8'
        have HW8 := Lib.hid (HW.out.step hb8')
        have HO8 := Lib.hid (own_move HOWNI.out (fun k hk => hb8'.block k (HOWNI.out.lt k hk).2))
        clear hR8 hb8 hb8'
        obtain ⟨p1, p2, p3, p4, _, _⟩ := HW8.out.cells hlt
        rw [HEI.out] at p1
        rw [HEO.out] at p2
        have HW8a := Lib.hid (HW8.out.step ((Below.refl _ w8).alloc (Nat.le_refl _) (.cells #[.slice A8 (listN (I i)).length c8] 39)))
        obtain ⟨r1, r2, r3, r4, _, _⟩ := HW8a.out.cells hlt
        rw [HEI.out] at r1
        rw [HEO.out] at r2
        go_wp2_with fail
        refine hK.out _ _ (⟨by assumption, by assumption, by assumption, by assumption⟩) (fun hHeld => ?_)
        clear hK K
        try simp only [Act.put, List.setIfInBounds_toArray, List.set_cons_zero, List.set_cons_succ]
        refine Two.step 7 rfl (by kernel_rfl) (fun K hK => ?_)
        go_simp
        refine hK.out _ _ (⟨by assumption, by assumption, by assumption, by assumption⟩) (fun hHeld => ?_)
        clear hK K
        try simp only [Act.put, List.setIfInBounds_toArray, List.set_cons_zero, List.set_cons_succ]
        refine Two.step 8 rfl (by kernel_rfl) (fun K hK => ?_)
        refine step_rows sI (.slice A8 (listN (I i)).length c8) rfl _ _ rfl rfl rfl HO8.out rfl hli (Nat.le_trans hb HB8.out.size) ?_
        intro g9 c9 w9 hown9 hg9 hat9
        have HW9 := Lib.hid (HW8.out.app (Nat.le_refl _) HO8.out hg9)
        have HO9 := Lib.hid hown9
        have HG9 := Lib.hid hg9
        have HA9 := Lib.hid hat9
        clear hown9 hg9 hat9
        obtain ⟨s1, s2, s3, s4, _, _⟩ := HW9.out.cells hlt
        rw [HEI.out] at s1
        rw [HEO.out] at s2
        refine hK.out _ _ (⟨by assumption, by assumption, by assumption, by assumption⟩) (fun hHeld => ?_)
        clear hK K
        try simp only [Act.put, List.setIfInBounds_toArray, List.set_cons_zero, List.set_cons_succ]
        refine Two.take (v := ?_) 18 rfl (Or.inl ⟨by rfl, ?_⟩) rfl (by kernel_rfl) (by kernel_rfl) (by kernel_rfl) (by kernel_rfl) (by kernel_rfl) (fun _ _ _ h => h) (by assumption) ?_
        rotate_left
        · intro w' hSw
          try dsimp only at hSw
          go_simp
          try with_reducible rfl
        try simp only [Act.put, List.setIfInBounds_toArray, List.set_cons_zero, List.set_cons_succ]
        refine Two.step 15 rfl (by kernel_rfl) (fun K hK => ?_)
        go_simp
        go_at_call 37
        refine (OfW.list1 HW9.out hlt hN40 hlO HEO.out).mono ?_
        rintro e w10 ⟨v10, rfl, hR10, hb10⟩
        obtain ⟨A10, c10, rfl⟩ := Kd.R_slice hR10
        have HR10 := Lib.hid (Own1.of_R0 (t := 3) hR10)
        have HB10 := Lib.hid hb10
        have HW10 := Lib.hid (HW9.out.step hb10)
        have HO10 := Lib.hid (rows_in (own_move (rows_in HOWNO.out HB8.out) fun k hk => HG9.out.block k (Nat.lt_of_lt_of_le (HOWNO.out.lt k hk).2 HB8.out.size) (fun e => HSEP.out k e.symm hk)) hb10)
        clear hR10 hb10
        obtain ⟨t1, t2, t3, t4, _, _⟩ := HW10.out.cells hlt
        rw [HEI.out] at t1
        rw [HEO.out] at t2
        have HW10a := Lib.hid (HW10.out.step ((Below.refl _ w10).alloc (Nat.le_refl _) (.cells #[.slice A10 (listN (O i)).length c10] 39)))
        obtain ⟨n1, n2, n3, n4, _, _⟩ := HW10a.out.cells hlt
        rw [HEI.out] at n1
        rw [HEO.out] at n2
        go_wp2_with fail
        refine hK.out _ _ (⟨by assumption, by assumption, by assumption, by assumption⟩) (fun hHeld => ?_)
        clear hK K
        try simp only [Act.put, List.setIfInBounds_toArray, List.set_cons_zero, List.set_cons_succ]
        refine Two.step 16 rfl (by kernel_rfl) (fun K hK => ?_)
        go_simp
        refine hK.out _ _ (⟨by assumption, by assumption, by assumption, by assumption⟩) (fun hHeld => ?_)
        clear hK K
        try simp only [Act.put, List.setIfInBounds_toArray, List.set_cons_zero, List.set_cons_succ]
        refine Two.step 17 rfl (by kernel_rfl) (fun K hK => ?_)
        refine step_rows sO (.slice A10 (listN (O i)).length c10) rfl _ _ rfl rfl rfl HO10.out rfl hli HW10.out.below.size ?_
        intro g11 c11 w11 hown11 hg11 hat11
        have HW11 := Lib.hid (HW10.out.app (Nat.le_refl _) HO10.out hg11)
        have HO11 := Lib.hid hown11
        have HG11 := Lib.hid hg11
        have HA11 := Lib.hid hat11
        clear hown11 hg11 hat11
        obtain ⟨m1, m2, m3, m4, fm3, fm4⟩ := HW11.out.cells hlt
        rw [HEI.out] at m1
        rw [HEO.out] at m2
        refine hK.out _ _ (⟨by assumption, by assumption, by assumption, by assumption⟩) (fun hHeld => ?_)
        clear hK K
        try simp only [Act.put, List.setIfInBounds_toArray, List.set_cons_zero, List.set_cons_succ]
        refine Two.tail rfl rfl (by kernel_rfl) (by kernel_rfl) ?_
        have hX := of_leaf hg6w hg56 (Nat.le_refl _) hxl hyl HOWNI.out HOWNO.out HXI.out HXO.out hb HSEP.out HB8.out HR8.out HG9.out HO9.out HA9.out HB10.out HR10.out HG11.out HO11.out HA11.out HW11.out
        have HX := Lib.hid hX
        clear hX
        go_wp2_with fail
        go_roundg (B.length - (i + 1))
        case rel => exact ⟨i + 1, _, _, by omega, rfl, by go_num, HX.out.1, HX.out.2.1, HX.out.2.2.1, HX.out.2.2.2⟩
        case measure => omega
      · have e : i = B.length := by omega
        subst e
        obtain ⟨A1, c1, e1, _, _⟩ := HRI.out.C
        obtain ⟨A2', c2', e2, _, _⟩ := HRO.out.C
        subst e1 e2
        obtain ⟨y0, y1⟩ := cells2 HW.out.box
        obtain ⟨x0, x1⟩ := cells2 HW.out.box5
        have fx0 := blk_frozen HW.out.box5 0
        have fx1 := blk_frozen HW.out.box5 1
        go_wp2
        have hk : ((wo.setCell ⟨g5, 0, none⟩ (.slice A1 (lstN I B.length).length c1)).setCell ⟨g5, 1, none⟩ (.slice A2' (lstN O B.length).length c2')).heap[g5]? = some (.cells #[.slice A1 (lstN I B.length).length c1, .slice A2' (lstN O B.length).length c2'] 30 (0, 0)) := blk_put (blk_put HW.out.box5 0 _ rfl) 1 _ rfl
        have hkf : Kept wo ((wo.setCell ⟨g5, 0, none⟩ (.slice A1 (lstN I B.length).length c1)).setCell ⟨g5, 1, none⟩ (.slice A2' (lstN O B.length).length c2')) (fun k => k = g5) :=
          (kept_set (S := fun k => k = g5) rfl 0 _).then_ (kept_set (S := fun k => k = g5) rfl 1 _) (fun k hk => .inl hk)
        have hSf : TyS wo (fun k => k = g5) (fun t => t = 30) := fun k hk _ => by subst hk; exact ⟨_, _, HW.out.box5, rfl⟩
        have hnb : ∀ {v : Value} {ls : List (List Int)}, RowsOf wo w.heap.size v ls → ∀ k, v.ownBlock = some k → ¬ k = g5 := fun h k hkk e => by
          subst e
          obtain ⟨cs, hcs⟩ := h.cells _ hkk
          rw [HW.out.box5] at hcs
          injection hcs with h1
          injection h1 with _ h2 _
          exact absurd h2 (by decide)
        have HX1 := Lib.hid (HRI.out.ty hkf hSf (by decide) (hnb HRI.out))
        have HX2 := Lib.hid (HRO.out.ty hkf hSf (by decide) (hnb HRO.out))
        have HXB := Lib.hid ((HW.out.below.setCell (p := ⟨g5, 0, none⟩) hg5w (.slice A1 (lstN I B.length).length c1)).setCell (p := ⟨g5, 1, none⟩) hg5w (.slice A2' (lstN O B.length).length c2'))
        obtain ⟨wz, hwz⟩ : ∃ wz, wz = ((wo.setCell ⟨g5, 0, none⟩ (.slice A1 (lstN I B.length).length c1)).setCell ⟨g5, 1, none⟩ (.slice A2' (lstN O B.length).length c2')) := ⟨_, rfl⟩
        rw [← hwz] at hk HX1 HX2 HXB ⊢
        clear hwz y0 y1 x0 x1 fx0 fx1 hkf hSf hnb
        obtain ⟨x0, x1⟩ := cells2 hk
        (try simp only [Exit.inBlock, Exit.then])
        refine bodyPost_ret (v := .tuple #[.agg #[.slice A1 (lstN I B.length).length c1, .slice A2' (lstN O B.length).length c2'], .int .i64 0]) ?hr rfl ?_
        case hr =>
          unfold results
          rw [show Try.f10.results = #[.cell 2 30, .tmp 3] from rfl]
          simp
          go_simp
        exact ⟨.inr ⟨N, _, _, I, O, rfl, HF.out, rfl, HSI.out, HX1.out, HX2.out⟩, HXB.out⟩
end Go.Proofs.Ythgodpmahdnnjaa
end
section
namespace Go.Proofs.Ythgodpmahdnnjaa
open Go.RowKit Go.Proofs.YthgodpmahdnnjaaW.PrintWords Go.Proofs.YthgodpmahdnnjaaW.PrintMore Go.Proofs.Ythgodpmahdnnjaa.H
theorem act_ok {R : Nat} (hR : R ≤ 30) {B : List S43} (hF : OkF R B) (w0 : World) {n₀ : Nat} (gc gs : Nat) (vs : Nat → Value) (hw : w0.heap.size ≤ n₀) :
    ActOk R B 48 #[.pointer (some ⟨gc, 0, none⟩)] w0 n₀ (fun cs W => InfJ R w0.heap.size n₀ gc gs vs (infN B cs) W) := by
  refine ⟨fun pre W h => h.sz, fun pre W W' h hb _ => h.stable hb, fun pre b p m A c W hj hbw _ hb hp hm hc hC => ?_⟩
  have := act_calls R hR B hF w0 n₀ gc gs vs (infN B pre) b p m A c W hj hbw hw hb hp hm hc hC _ rfl
  rw [← infN_snoc] at this
  simpa only [List.append_toArray, List.cons_append, List.nil_append] using this
theorem rowsOf_rowF {w : World} {s0 g N : Nat} {f : Nat → Value} {ls : Nat → List Int} (h : w.heap[g]? = some (.cells (rowF f N) 39 (0, 0))) (hg : s0 ≤ g) (hN : N ≤ 1000) (ho : ∀ r, r < N → Own1 3 w s0 (f r) (ls r)) :
    RowsOf w s0 (.slice (some ⟨g, 0, none⟩) N N) ((List.range N).map ls) := by
  refine ⟨(List.range N).map f, by simp, ⟨by simp, .inr ⟨g, N, rowF f N, by simp, hg, h, by simp, by simp [maxLen]; omega, by simp [rowF_size], ?_⟩⟩, fun i hi => ?_⟩
  · simp only [rowF, Nat.mul_one]
    exact List.take_of_length_le (by simp)
  · have hi' : i < N := by simpa using hi
    have e1 : ((List.range N).map f).getD i undef = f i := by simp [List.getD_eq_getElem?_getD, hi']
    have e2 : ((List.range N).map ls).getD i [] = ls i := by simp [List.getD_eq_getElem?_getD, hi']
    rw [e1, e2]; exact ho i hi'
structure InfP (N base gc gs i : Nat) (vs : Nat → Value) (W : World) : Prop where
  box : W.heap[gc]? = some (.cells #[.slice (some ⟨gs, 0, none⟩) N N] 71 (0, 0))
  tab : W.heap[gs]? = some (.cells (rowF vs N) 75 (0, 0))
  own : ∀ r, r < i → Own1 0 W base (vs r) (rowN N 0)
  nil : ∀ r, i ≤ r → vs r = .slice none 0 0
  sep : ∀ r r', r ≠ r' → ∀ k, (vs r).ownBlock = some k → (vs r').ownBlock ≠ some k
theorem InfP.step {N base gc gs i : Nat} {vs : Nat → Value} {W W8 : World} {v : Value} (h : InfP N base gc gs i vs W) (hi : i < N) (hb : Below W.heap.size W W8) (hw : base ≤ W.heap.size) (hv : Own1 0 W8 W.heap.size v (rowN N 0)) :
    InfP N base gc gs (i + 1) (fun r => if r = i then v else vs r) (W8.setCell ⟨gs, i, none⟩ v) := by
  have hb1 := heap_below h.box hb
  have ht1 := heap_below h.tab hb
  have hne : gc ≠ gs := blk_ne h.box h.tab (by decide)
  have hk : ∀ {t : Nat} {x : Value} {l : List Int}, te t ≠ 75 → Own1 t W8 base x l → Own1 t (W8.setCell ⟨gs, i, none⟩ v) base x l := fun ht ho => ho.move fun k hk => by
    obtain ⟨cs, hcs⟩ := ho.cells k hk
    exact Below.heap_setCell W8 ⟨gs, i, none⟩ v k (fun e => by subst e; rw [ht1] at hcs; injection hcs with h1; injection h1 with _ h2 _; exact ht h2.symm)
  have hvk : ∀ r, r < i → ∀ k, (vs r).ownBlock = some k → k < W.heap.size := fun r hr k hk => ((h.own r hr).lt k hk).2
  refine ⟨(Below.heap_setCell W8 ⟨gs, i, none⟩ v gc hne).trans hb1, heap_set_row v ht1, fun r hr => ?_, fun r hr => ?_, fun r r' hne' k hk1 hk2 => ?_⟩
  · by_cases e : r = i
    · subst e; rw [if_pos rfl]; exact hk (by decide) (hv.lower hw)
    · rw [if_neg e]; exact hk (by decide) ((h.own r (by omega)).kept (Kept.of_below hb (fun _ => False)) (fun _ _ h => h))
  · rw [if_neg (by omega)]; exact h.nil r (by omega)
  · have key : ∀ r, r ≠ i → ∀ k, (vs r).ownBlock = some k → v.ownBlock = some k → False := fun r hr k h1 h2 => by
      rcases Nat.lt_or_ge r i with hlt | hge
      · have := hvk r hlt k h1; have := (hv.lt k h2).1; omega
      · rw [h.nil r hge] at h1; cases h1
    by_cases e1 : r = i
    · rw [if_pos e1] at hk1
      rw [if_neg (by omega)] at hk2
      exact key r' (by omega) k hk2 hk1
    · rw [if_neg e1] at hk1
      by_cases e2 : r' = i
      · rw [if_pos e2] at hk2; exact key r e1 k hk1 hk2
      · rw [if_neg e2] at hk2; exact h.sep r r' hne' k hk1 hk2
set_option maxHeartbeats 8000000 in
set_option maxRecDepth 100000 in
theorem Interference_calls (nm : ByteArray) (R : Int) (hR : R ≤ 30) (A2 : Option Addr) (c2 n2 : Nat) (A3 : Option Addr) (c3 : Nat) (B : List S43) (w : World)
    (hC3 : k43.C w A3 B.length B) (hc3 : B.length ≤ c3) (hn : B.length ≤ 30) (hcode : ∀ x ∈ B, x.f0.length ≤ 1000) :
    Calls Try.prog 18 #[.agg #[.string nm, .int .i64 R, .slice A2 n2 c2, .slice A3 B.length c3]] w
      fun e w' => ((wfB R B = false ∧ e = .returned (.tuple #[.slice none 0 0, .int .i64 3])) ∨
        (∃ (N : Nat) (v : Value) (I O : Nat → Nat), R = N ∧ OkF N B ∧ e = .returned (.tuple #[v, .int .i64 0]) ∧ SI N B I O [] ∧ RowsOf w' w.heap.size v ((List.range N).map fun r => listN (infN B (visL B O B.length) r)))) ∧ Below w.heap.size w w' := by
  have hn1 : B.length ≤ 1000 := by omega
  have HC3 := Lib.hid hC3
  have HCD := Lib.hid hcode
  clear hC3 hcode
  obtain ⟨o, ho⟩ : ∃ o, o = wfB R B := ⟨_, rfl⟩
  rw [← ho]
  have HO := Lib.hid ho
  clear ho
  cases o with
  | false =>
    go_enter Try.func18, Try.ntmps18
    go_wp2_with (first
      | ((with_reducible refine gate_dst (N := 1) rfl ?_); refine box_event ?hg (N := 1) ?hd (cs := #[.string nm, .int .i64 R, .slice A2 n2 c2, .slice A3 B.length c3]) (t := 25) ?hr ?_; (case hd => rfl); (case hg => rfl); (case hr => first | (go_simp; done) | (go_simp; rfl)); intro g hg w3 hbox hbw; have HBW := Lib.hid hbw; obtain ⟨z0, z1, z2, z3⟩ := cells4 hbox; clear hbox hbw; have HG := Lib.hid hg; clear hg)
      | (go_at_call 35; refine (wf_calls nm R A2 c2 n2 A3 c3 B _ (Kd.C_below HC3.out HBW.out) hc3 hn1 HCD.out).mono ?_; rw [← HO.out]; rintro e w6 ⟨rfl, hb6⟩; have HB6 := Lib.hid hb6; clear hb6 z0 z1 z2 z3)
      | fail)
    go_ret2
    exact ⟨.inl ⟨trivial, rfl⟩, HBW.out.trans (HB6.out.mono HBW.out.size)⟩
  | true =>
    obtain ⟨N, rfl, hN, hF⟩ := (wfB_iff R B).1 HO.out.symm
    have HF := Lib.hid hF
    have hNR : N ≤ 30 := by omega
    clear hF
    have hms := run_make_row' (P := Try.prog) 71 75 (.slice none 0 0) 24 Try.underlying71 (by kernel_rfl) rfl .i64 .i64 N (by omega) (by omega)
    have hmp := run_make_row' (P := Try.prog) 28 39 (.slice none 0 0) 24 Try.underlying28 (by kernel_rfl) rfl .i64 .i64 N (by omega) (by omega)
    rw [rowF_made] at hms hmp
    go_enter Try.func18, Try.ntmps18
    go_upto_region 5 with (first
      | ((with_reducible refine gate_dst (N := 1) rfl ?_); refine box_event ?hg (N := 1) ?hd (cs := #[.string nm, .int .i64 N, .slice A2 n2 c2, .slice A3 B.length c3]) (t := 25) ?hr ?_; (case hd => rfl); (case hg => rfl); (case hr => first | (go_simp; done) | (go_simp; rfl)); intro g hg w3 hbox hbw; have BK := Lib.hid hbox; have HBW := Lib.hid hbw; obtain ⟨z0, z1, z2, z3⟩ := cells4 hbox; clear hbox hbw; have HG := Lib.hid hg; clear hg)
      | (go_at_call 35; refine (wf_calls nm N A2 c2 n2 A3 c3 B _ (Kd.C_below HC3.out HBW.out) hc3 hn1 HCD.out).mono ?_; rw [← HO.out]; rintro e w6 ⟨rfl, hb6⟩; have HB6 := Lib.hid hb6; have BKB := Lib.hid (heap_below BK.out hb6); clear hb6 z0 z1 z2 z3; obtain ⟨z0, z1, z2, z3⟩ := cells4 BKB.out)
      | fail)
    obtain ⟨gs, hgs⟩ : ∃ gs, gs = w6.heap.size := ⟨_, rfl⟩
    obtain ⟨w7, hw7⟩ : ∃ w7, w7 = ((w6.alloc (Obj.cells (rowF (fun _ => .slice none 0 0) N) 75)).alloc (Obj.cells #[.slice (some ⟨gs, 0, none⟩) N N] 71)) := ⟨_, rfl⟩
    rw [← hgs, ← hw7]
    have hb67 : Below w6.heap.size w6 w7 := by rw [hw7]; exact ((Below.refl _ w6).alloc (Nat.le_refl _) _).alloc (by simp) _
    have hw63 : w.heap.size ≤ w6.heap.size := (HBW.out.trans (HB6.out.mono HBW.out.size)).size
    have hP0 : InfP N w6.heap.size (gs + 1) gs 0 (fun _ => .slice none 0 0) w7 := by
      refine ⟨?_, ?_, fun r hr => by omega, fun r _ => rfl, fun r r' _ k hk => by cases hk⟩
      · rw [hw7, hgs, ← alloc_size1 w6 (Obj.cells (rowF (fun _ => .slice none 0 0) N) 75)]; exact World.alloc_heap_new _ _
      · rw [hw7, hgs]; exact (Below.heap_alloc _ _ _ (by simp)).trans (World.alloc_heap_new w6 _)
    have hgg : g < w6.heap.size := heap_lt BKB.out
    have HP0 := Lib.hid hP0
    have HBW7 := Lib.hid hb67
    have HBW6 := Lib.hid (HBW.out.trans (HB6.out.mono HBW.out.size))
    have hgsw : w6.heap.size ≤ gs := by omega
    clear hP0 hb67 hw7 hgs hms z0 z1 z2 z3 BK HBW HB6 HG
    go_loopg [16] (N) (fun k v16 wr => ∃ (i : Nat) (vs : Nat → Value), i ≤ N ∧ k = N - i ∧ v16 = .int .i64 i ∧ InfP N w6.heap.size (gs + 1) gs i vs wr ∧ Below w6.heap.size w6 wr)
    case atStart => exact ⟨0, _, Nat.zero_le _, rfl, rfl, HP0.out, HBW7.out⟩
    case round =>
      obtain ⟨i, vs, hi, rfl, rfl, hP, hbw⟩ := hrel
      obtain ⟨wo, rfl⟩ : ∃ wo, wo = wr := ⟨_, rfl⟩
      have HP := Lib.hid hP
      have hbk := heap_below BKB.out hbw
      have HBK := Lib.hid hbk
      have HBWo := Lib.hid hbw
      clear hP hbk hbw HP0 HBW7
      by_cases hlt : i < N
      · have hR0 := newSet_f (R := N) (by omega)
        obtain ⟨z0, z1, z2, z3⟩ := cells4 HBK.out
        have y0 : wo.cell? ⟨gs + 1, 0, none⟩ = some (.slice (some ⟨gs, 0, none⟩) N N) := (blk_cell HP.out.box 0).trans rfl
        obtain ⟨q1, fq1⟩ := cell_of_row HP.out.tab (rowF_get hlt)
        go_upto_region 7 with fail
        go_region_with (first
          | (go_at_call 40; refine (liveness_newSet.calls _ _ wo.drew hR0).mono ?_; rintro e w8 ⟨v8, rfl, hR8, hb8⟩; obtain ⟨A8, c8, rfl, _, _⟩ := Kd.R_reads hR8; have hb8' := (Below.refl wo.heap.size wo).drew.trans hb8; have HR8 := Lib.hid (Own1.of_R0 (t := 0) hR8); have HB8 := Lib.hid hb8'; have y1 : w8.cell? ⟨gs + 1, 0, none⟩ = some (.slice (some ⟨gs, 0, none⟩) N N) := (blk_cell (heap_below HP.out.box hb8') 0).trans rfl; obtain ⟨q2, fq2⟩ := cell_of_row (heap_below HP.out.tab hb8') (rowF_get hlt); clear hR8 hb8 hb8')
          | fail)
        all_goals
          have hX := HP.out.step hlt HB8.out HBWo.out.size HR8.out
          have HX := Lib.hid hX
          clear hX
          go_wp2_with fail
          go_roundg (N - (i + 1))
          case rel => exact ⟨i + 1, _, by omega, rfl, by go_num, HX.out, (HBWo.out.trans (HB8.out.mono HBWo.out.size)).setCell (p := ⟨gs, i, none⟩) hgsw _⟩
          case measure => omega
      · have e : i = N := by omega
        subst e
        have hJ : InfJ i w6.heap.size wo.heap.size (gs + 1) gs vs (infN B []) wo :=
          ⟨HP.out.box, HP.out.tab, fun r hr => HP.out.own r hr, fun r r' _ _ hne => HP.out.sep r r' hne, fun r hr k hk => ((HP.out.own r hr).lt k hk).2, heap_lt HP.out.box, heap_lt HP.out.tab, fun r _ => Nat.two_pow_pos _, Nat.le_refl _⟩
        have hvis := visit_calls nm i hNR A2 c2 n2 A3 c3 B (gs + 1) w6 wo _ HBWo.out (Kd.C_below HC3.out HBW6.out) hc3 hn HCD.out HF.out (act_ok hNR HF.out w6 (gs + 1) gs vs HBWo.out.size) hJ
        have HVIS := Lib.hid hvis
        have hmf : ∀ fn first cap w, (Instr.makeFunc fn first cap).run Try.prog w = .ok (.func fn first cap) w := fun _ _ _ _ => rfl
        obtain ⟨z0, z1, z2, z3⟩ := cells4 HBK.out
        clear hJ hvis
        go_upto_region 10 with (first
          | (go_at_call 47; refine HVIS.out.mono ?_; rintro e w9 ⟨I, O, rfl, hsi, hj, hb9⟩; have HSI := Lib.hid hsi; have HJ9 := Lib.hid hj; have HB9 := Lib.hid hb9; clear hsi hj hb9)
          | fail)
        have hbk9 := heap_below BKB.out HB9.out
        clear z0 z1 z2 z3 hmf HVIS HP HBK HBWo
        obtain ⟨z0, z1, z2, z3⟩ := cells4 hbk9
        clear hbk9
        obtain ⟨X, hX⟩ : ∃ X, X = infN B (visL B O B.length) := ⟨_, rfl⟩
        rw [← hX] at HJ9
        have HX := Lib.hid hX
        clear hX
        have hJ10 := HJ9.out.stable ((Below.refl w9.heap.size w9).alloc (Nat.le_refl _) (.cells (rowF (fun _ => .slice none 0 0) i) 39) |>.mono HJ9.out.sz)
        have y0 : (w9.alloc (.cells (rowF (fun _ => .slice none 0 0) i) 39)).cell? ⟨gs + 1, 0, none⟩ = some (.slice (some ⟨gs, 0, none⟩) i i) := (blk_cell hJ10.box 0).trans rfl
        have HJ10 := Lib.hid hJ10
        clear hJ10
        go_upto_region 12 with (first
          | fail)
        obtain ⟨gr, hgr⟩ : ∃ gr, gr = w9.heap.size := ⟨_, rfl⟩
        obtain ⟨wa, hwa⟩ : ∃ wa, wa = w9.alloc (.cells (rowF (fun _ => .slice none 0 0) i) 39) := ⟨_, rfl⟩
        rw [← hgr, ← hwa]
        have hba : Below w9.heap.size w9 wa := by rw [hwa]; exact (Below.refl _ w9).alloc (Nat.le_refl _) _
        have hra : wa.heap[gr]? = some (.cells (rowF (fun _ => .slice none 0 0) i) 39 (0, 0)) := by rw [hwa, hgr]; exact World.alloc_heap_new w9 _
        have hJa := HJ9.out.stable (hba.mono HJ9.out.sz)
        have hw96 : w6.heap.size ≤ w9.heap.size := HB9.out.size
        have hgrw : w6.heap.size ≤ gr := by omega
        have HRA := Lib.hid hra
        have HJA := Lib.hid hJa
        have HBA := Lib.hid (HB9.out.trans (hba.mono hw96))
        have hgrn : wo.heap.size ≤ gr := by rw [hgr]; exact HJ9.out.sz
        clear hba hra hJa hwa hgr y0 HJ10 z0 z1 z2 z3 HB9 HJ9
        go_loopw [34] (fun v wr => ∃ (j : Nat) (xs : Nat → Value), j ≤ i ∧ v = .int .i64 j ∧ InfJ i w6.heap.size wo.heap.size (gs + 1) gs vs X wr ∧ wr.heap[gr]? = some (.cells (rowF xs i) 39 (0, 0)) ∧ (∀ r, r < j → Own1 3 wr w6.heap.size (xs r) (listN (X r))) ∧ Below w6.heap.size w6 wr) (fun v _ => i - (intOf v).toNat)
        case atStart => exact ⟨0, _, Nat.zero_le _, rfl, HJA.out, HRA.out, fun r hr => absurd hr (Nat.not_lt_zero r), HBA.out⟩
        case round =>
          obtain ⟨j, xs, hj, rfl, hJ, hrow, hxs, hbw⟩ := hrel
          obtain ⟨wb, rfl⟩ : ∃ wb, wb = wr := ⟨_, rfl⟩
          have HJb := Lib.hid hJ
          have HRb := Lib.hid hrow
          have HXb := Lib.hid hxs
          have HBb := Lib.hid hbw
          clear hJ hrow hxs hbw HJA HRA HBA
          by_cases hjl : j < i
          · have hoj := HJb.out.own j hjl
            have hxl := HJb.out.xlt j hjl
            obtain ⟨Aj, cj, ej, hlj, hCj⟩ := Kd.R_reads (hoj.R0 (t := 0) (ok := fun _ => True) (fun _ _ => trivial))
            have hcall := liveness_set_list.calls 70 Aj cj (rowN i (X j)) _ wb hCj hlj (list_f (by omega) hxl (Nat.le_refl _))
            have HCALL := Lib.hid hcall
            have y0 : wb.cell? ⟨gs + 1, 0, none⟩ = some (.slice (some ⟨gs, 0, none⟩) i i) := (blk_cell HJb.out.box 0).trans rfl
            obtain ⟨y1, _⟩ := cell_of_row HJb.out.tab (rowF_get hjl)
            rw [ej] at y1
            clear hcall hCj hlj hoj ej
            go_wp2_with (first
              | (go_at_call 37; refine HCALL.out.mono ?_; rintro e w8 ⟨v8, rfl, hR8, hb8⟩; obtain ⟨A8, c8, rfl⟩ := Kd.R_slice hR8; have HR8 := Lib.hid (Own1.of_R0 (t := 3) hR8); have HB8 := Lib.hid hb8; obtain ⟨q2, fq2⟩ := cell_of_row (heap_below HRb.out hb8) (rowF_get hjl); clear hR8 hb8)
              | fail)
            go_roundw
            case rel =>
              have hsb : w6.heap.size ≤ wb.heap.size := HBb.out.size
              have hr8 := heap_below HRb.out HB8.out
              have hk : ∀ {x : Value} {l : List Int}, Own1 3 w8 w6.heap.size x l → Own1 3 (w8.setCell ⟨gr, j, none⟩ (.slice A8 (listN (X j)).length c8)) w6.heap.size x l := fun ho => ho.move fun k hk => by
                obtain ⟨cs, hcs⟩ := ho.cells k hk
                exact Below.heap_setCell w8 ⟨gr, j, none⟩ _ k (fun e => by subst e; rw [hr8] at hcs; injection hcs with h1; injection h1 with _ h2 _; exact absurd h2 (by decide))
              refine ⟨j + 1, fun r => if r = j then .slice A8 (listN (X j)).length c8 else xs r, by omega, by go_num, (HJb.out.stable (HB8.out.mono HJb.out.sz)).stable ((Below.refl _ w8).setCell (p := ⟨gr, j, none⟩) hgrn _), heap_set_row _ hr8, fun r hr => ?_, (HBb.out.trans (HB8.out.mono hsb)).setCell (p := ⟨gr, j, none⟩) hgrw _⟩
              dsimp only
              by_cases e : r = j
              · subst e; rw [if_pos rfl]; exact hk (HR8.out.lower hsb)
              · rw [if_neg e]; exact hk ((HXb.out r (by omega)).kept (Kept.of_below HB8.out (fun _ => False)) (fun _ _ h => h))
            case measure => simp [intOf]; omega
          · have e : j = i := by omega
            subst e
            go_wp2
            go_ret2
            have hsb : w.heap.size ≤ w6.heap.size := HBW6.out.size
            refine ⟨.inr ⟨j, _, I, O, rfl, HF.out, rfl, HSI.out, ?_⟩, HBW6.out.trans (HBb.out.mono hsb)⟩
            rw [← HX.out]
            exact (rowsOf_rowF HRb.out hgrw (by omega) HXb.out).lower hsb
end Go.Proofs.Ythgodpmahdnnjaa
end
section
namespace Go.Proofs.Ythgodpmahdnnjaa
open Go.RowKit Go.Proofs.YthgodpmahdnnjaaW.PrintWords Go.Proofs.YthgodpmahdnnjaaW.PrintMore Go.Proofs.Ythgodpmahdnnjaa.H
def aC : List S62 := [⟨1, 0, 0, 0, 1, ⟨#[]⟩⟩, ⟨1, 1, 0, 0, 2, ⟨#[]⟩⟩, ⟨3, 0, 0, 1, 6, ⟨#[]⟩⟩, ⟨10, 0, 0, 0, 0, ⟨#[]⟩⟩]
def aB : List S43 := [⟨aC, 3, 0, 0, 0⟩]
theorem aB_wf : wfB 2 aB = true := by decide
theorem aB_O {R : Nat} {I O : Nat → Nat} (h : SI R aB I O []) : O 0 = 0 ∧ I 0 = 0 := by
  have hO : O 0 = 0 := by
    apply Nat.eq_of_testBit_eq
    intro r
    rw [Nat.zero_testBit]
    cases hb : (O 0).testBit r with
    | false => rfl
    | true =>
      exfalso
      have hl := h.soundO 0 (by decide) r hb
      generalize hz : (0 : Nat) = b at hl
      cases hl with
      | use h1 _ => subst hz; simp [aB, succL] at h1
      | thru h1 _ _ => subst hz; simp [aB, succL] at h1
  refine ⟨hO, ?_⟩
  have := (h.fixed 0 (by decide) (by simp)).1
  rw [this, hO]
  decide
theorem aB_inf (O : Nat → Nat) (h : O 0 = 0) : listN (infN aB (visL aB O 1) 0) = [1] ∧ listN (infN aB (visL aB O 1) 1) = [0] := by
  have e : visL aB O 1 = visL aB (fun _ => 0) 1 := by simp [visL, h]
  rw [e]
  constructor <;> decide
theorem aB_bef : befoR 2 aB [[]] 0 2 = [0, 1] := by decide
theorem C_flat {α : Type} {d : Kd α} {w : World} {g : Nat} {t : TypeId} {cells : Array Value} (h : w.heap[g]? = some (.cells cells t (0, 0))) (xs : List α) (hn : xs.length ≤ 1000)
    (hK : ∀ j p, xs[j]? = some p → ∃ c, c.length = d.sz ∧ d.K w p c ∧ ∀ i u, c[i]? = some u → cells[j * d.sz + i]? = some u) : d.C w (some ⟨g, 0, none⟩) xs.length xs := by
  refine ⟨rfl, by omega, fun _ => ⟨_, rfl, fun j p hp => ?_⟩⟩
  obtain ⟨c, h1, h2, h3⟩ := hK j p hp
  refine ⟨c, h1, h2, fun i u hu => ?_⟩
  have hadd : (⟨g, 0, none⟩ : Addr).add (j * d.sz + i) = ⟨g, j * d.sz + i, none⟩ := by unfold Addr.add; split <;> simp_all
  rw [hadd]
  exact (cell_of_row h (h3 i u hu)).1
structure AwW (w : World) (h2 h3 h4 : Nat) (Ai : Option Addr) (ci : Nat) (Ao : Option Addr) (co : Nat) (pI : Addr) (A0 : Option Addr) (c0 : Nat) (p0 p1 : Addr) (L0 : Option Addr) (d0 : Nat) (L1 : Option Addr) (d1 : Nat) (W : World) : Prop where
  b25 : W.heap[h3]? = some (.cells #[.string ⟨#[]⟩, .int .i64 2, .slice none 0 0, .slice (some ⟨h2, 0, none⟩) 1 1] 25 (0, 0))
  b30 : W.heap[h4]? = some (.cells #[.slice Ai 1 ci, .slice Ao 1 co] 30 (0, 0))
  cB : k43.C W (some ⟨h2, 0, none⟩) 1 aB
  cO : (Kd.slice 3 (Kd.int .i64)).C W Ao 1 [[]]
  e0 : W.cell? pI = some (.slice A0 0 c0)
  l0 : W.cell? p0 = some (.slice L0 1 d0)
  l1 : W.cell? p1 = some (.slice L1 1 d1)
  r0 : (Kd.int .i64).C W L0 1 [1]
  r1 : (Kd.int .i64).C W L1 1 [0]
  bw : Below w.heap.size w W
theorem cell_up {W W1 : World} {p : Addr} {v : Value} (h : W.cell? p = some v) (hb : Below W.heap.size W W1) : W1.cell? p = some v := (World.cell?_of_block (hb.block _ (World.block_lt_of_cell? W _ h))).trans h
theorem AwW.step {w : World} {h2 h3 h4 : Nat} {Ai : Option Addr} {ci : Nat} {Ao : Option Addr} {co : Nat} {pI : Addr} {A0 : Option Addr} {c0 : Nat} {p0 p1 : Addr} {L0 : Option Addr} {d0 : Nat} {L1 : Option Addr} {d1 : Nat} {W W1 : World} (h : AwW w h2 h3 h4 Ai ci Ao co pI A0 c0 p0 p1 L0 d0 L1 d1 W) (hb : Below W.heap.size W W1) : AwW w h2 h3 h4 Ai ci Ao co pI A0 c0 p0 p1 L0 d0 L1 d1 W1 :=
  ⟨heap_below h.b25 hb, heap_below h.b30 hb, Kd.C_below h.cB hb, Kd.C_below h.cO hb, cell_up h.e0 hb, cell_up h.l0 hb, cell_up h.l1 hb, Kd.C_below h.r0 hb, Kd.C_below h.r1 hb, h.bw.trans (hb.mono h.bw.size)⟩
theorem C_new (W : World) (xs : List Int) (hn : xs.length ≤ 1000) : (Kd.int .i64).C (W.alloc (.cells (nums .i64 xs).toArray 3)) (some ⟨W.heap.size, 0, none⟩) xs.length xs :=
  C_flat (World.alloc_heap_new W _) xs hn (fun j p hp => ⟨[.int .i64 p], rfl, rfl, fun i u hu => by
    have hi : i = 0 := by have := (List.getElem?_eq_some_iff.1 hu).1; simp at this; omega
    subst hi
    simp at hu; subst hu
    have : (Kd.int .i64).sz = 1 := rfl
    rw [this]
    simp [nums, hp]⟩)
theorem aB_code : ∀ x ∈ aB, x.f0.length ≤ 1000 := fun x hx => by simp [aB] at hx; subst hx; decide
theorem aOf {W : World} {h2 : Nat} (hC : k43.C W (some ⟨h2, 0, none⟩) 1 aB) : Calls Try.prog 10 #[.agg #[.string ⟨#[]⟩, .int .i64 2, .slice none 0 0, .slice (some ⟨h2, 0, none⟩) 1 1]] W fun e w' =>
    ∃ Ai ci Ao co, e = .returned (.tuple #[.agg #[.slice Ai 1 ci, .slice Ao 1 co], .int .i64 0]) ∧ (Kd.slice 3 (Kd.int .i64)).C w' Ai 1 [[]] ∧ (Kd.slice 3 (Kd.int .i64)).C w' Ao 1 [[]] ∧ 1 ≤ co ∧ Below W.heap.size W w' := by
  refine (Of_calls ⟨#[]⟩ 2 (by decide) none 0 0 (some ⟨h2, 0, none⟩) 1 aB W hC (by decide) (by decide) aB_code).mono ?_
  rintro e w' ⟨h, hb⟩
  rcases h with ⟨hf, _⟩ | ⟨N, vi, vo, I, O, hN, _, rfl, hsi, hRi, hRo⟩
  · rw [aB_wf] at hf; cases hf
  · obtain ⟨hO, hI⟩ := aB_O hsi
    have eI : lstN I aB.length = [[]] := by simp [lstN, aB, hI]; decide
    have eO : lstN O aB.length = [[]] := by simp [lstN, aB, hO]; decide
    rw [eI] at hRi
    rw [eO] at hRo
    obtain ⟨Ai, ci, rfl, _, hCi⟩ := hRi.C
    obtain ⟨Ao, co, rfl, hlo, hCo⟩ := hRo.C
    exact ⟨Ai, ci, Ao, co, rfl, hCi, hCo, hlo, hb⟩
theorem aInf {W : World} {h2 : Nat} (hC : k43.C W (some ⟨h2, 0, none⟩) 1 aB) : Calls Try.prog 18 #[.agg #[.string ⟨#[]⟩, .int .i64 2, .slice none 0 0, .slice (some ⟨h2, 0, none⟩) 1 1]] W fun e w' =>
    ∃ Al cl, e = .returned (.tuple #[.slice Al 2 cl, .int .i64 0]) ∧ (Kd.slice 3 (Kd.int .i64)).C w' Al 2 [[1], [0]] ∧ Below W.heap.size W w' := by
  refine (Interference_calls ⟨#[]⟩ 2 (by decide) none 0 0 (some ⟨h2, 0, none⟩) 1 aB W hC (by decide) (by decide) aB_code).mono ?_
  rintro e w' ⟨h, hb⟩
  rcases h with ⟨hf, _⟩ | ⟨N, v, I, O, hN, _, rfl, hsi, hR⟩
  · rw [aB_wf] at hf; cases hf
  · obtain ⟨hO, _⟩ := aB_O hsi
    obtain ⟨e0, e1⟩ := aB_inf O hO
    obtain rfl : N = 2 := by omega
    have eL : ((List.range 2).map fun r => listN (infN aB (visL aB O aB.length) r)) = [[1], [0]] := by
      show [listN (infN aB (visL aB O 1) 0), listN (infN aB (visL aB O 1) 1)] = _
      rw [e0, e1]
    rw [eL] at hR
    obtain ⟨Al, cl, rfl, _, hCl⟩ := hR.C
    exact ⟨Al, cl, rfl, hCl, hb⟩
theorem aBef {W : World} {h2 ci co : Nat} {Ai Ao : Option Addr} (hC : k43.C W (some ⟨h2, 0, none⟩) 1 aB) (hCo : (Kd.slice 3 (Kd.int .i64)).C W Ao 1 [[]]) (hco : 1 ≤ co) :
    Calls Try.prog 13 #[.agg #[.string ⟨#[]⟩, .int .i64 2, .slice none 0 0, .slice (some ⟨h2, 0, none⟩) 1 1], .agg #[.slice Ai 1 ci, .slice Ao 1 co], .int .i64 0, .int .i64 2] W fun e w' =>
    ∃ A c, e = .returned (.slice A 2 c) ∧ 2 ≤ c ∧ (Kd.int .i64).C w' A 2 [0, 1] ∧ Below W.heap.size W w' := by
  refine (Before_calls ⟨#[]⟩ 2 none 0 0 (some ⟨h2, 0, none⟩) 1 aB Ai 1 ci Ao co [[]] 0 2 W hC (by decide) (by decide) aB_code (by decide) hCo hco (by decide) (by simp)).mono ?_
  rintro e w' ⟨v, rfl, hR, hb⟩
  rw [aB_bef] at hR
  obtain ⟨A, c, rfl, hl, hCv⟩ := Kd.R_reads hR
  exact ⟨A, c, rfl, hl, hCv, hb⟩
theorem aEq {W : World} {L : Option Addr} {d : Nat} (xs : List Int) (hn : xs.length ≤ 3) (hC : (Kd.int .i64).C W L xs.length xs) (hd : xs.length ≤ d) (hf : slices_Equal_int_int.f 10 xs xs = some true) :
    Calls Try.prog 14 #[.slice L xs.length d, .slice (some ⟨W.heap.size, 0, none⟩) xs.length xs.length] (W.alloc (.cells (nums .i64 xs).toArray 3)) fun e w' => e = .returned (.bool true) ∧ Below W.heap.size W w' := by
  have hb : Below W.heap.size W (W.alloc (.cells (nums .i64 xs).toArray 3)) := (Below.refl _ W).alloc (Nat.le_refl _) _
  refine (slices_Equal_int_int.calls 10 L d xs (some ⟨W.heap.size, 0, none⟩) xs.length xs true _ (Kd.C_below hC hb) hd (C_new W xs (by omega)) (Nat.le_refl _) hf).mono ?_
  rintro e w' ⟨rfl, hd'⟩
  exact ⟨rfl, hb.trans (hd'.below.mono hb.size)⟩
set_option maxHeartbeats 8000000 in
set_option maxRecDepth 100000 in
theorem awake_calls (w : World) : Calls Try.prog 8 #[] w fun e w' => e = .returned (.bool true) ∧ Below w.heap.size w w' := by
  have i1 : ontimelaw19_ins.f 1 0 0 0 1 = some (1, 0, 0, 0, 1, ⟨#[]⟩) := by (show _ = _); kernel_rfl
  have i2 : ontimelaw19_ins.f 1 1 0 0 2 = some (1, 1, 0, 0, 2, ⟨#[]⟩) := by (show _ = _); kernel_rfl
  have i3 : ontimelaw19_ins.f 3 0 0 1 6 = some (3, 0, 0, 1, 6, ⟨#[]⟩) := by (show _ = _); kernel_rfl
  have i4 : ontimelaw19_ins.f 10 0 0 0 0 = some (10, 0, 0, 0, 0, ⟨#[]⟩) := by (show _ = _); kernel_rfl
  have I1 := Lib.hid i1
  have I2 := Lib.hid i2
  have I3 := Lib.hid i3
  have I4 := Lib.hid i4
  clear i1 i2 i3 i4
  go_enter Try.func8, Try.ntmps8
  go_upto_region 2 with (first
    | (go_at_call 30; have hx := HB3.out; clear hx; refine (ontimelaw19_ins.calls 10 0 0 0 0 _ _ _ _ _ _ _ I4.out).mono ?_; rintro e w4 ⟨rfl, hb4⟩; have HB4 := Lib.hid hb4; clear hb4)
    | (go_at_call 30; have hx := HB2.out; clear hx; refine (ontimelaw19_ins.calls 3 0 0 1 6 _ _ _ _ _ _ _ I3.out).mono ?_; rintro e w3 ⟨rfl, hb3⟩; have HB3 := Lib.hid hb3; clear hb3)
    | (go_at_call 30; have hx := HB1.out; clear hx; refine (ontimelaw19_ins.calls 1 1 0 0 2 _ _ _ _ _ _ _ I2.out).mono ?_; rintro e w2 ⟨rfl, hb2⟩; have HB2 := Lib.hid hb2; clear hb2)
    | (go_at_call 30; refine (ontimelaw19_ins.calls 1 0 0 0 1 _ _ _ _ _ _ _ I1.out).mono ?_; rintro e w1 ⟨rfl, hb1⟩; have HB1 := Lib.hid hb1; clear hb1)
    | fail)
  obtain ⟨h1, hh1⟩ : ∃ h1, h1 = w4.heap.size := ⟨_, rfl⟩
  obtain ⟨w5, hw5⟩ : ∃ w5, w5 = w4.alloc (.cells #[.int .u8 1, .int .i64 0, .int .i64 0, .int .i64 0, .int .i64 1, .string ⟨#[]⟩, .int .u8 1, .int .i64 1, .int .i64 0, .int .i64 0, .int .i64 2, .string ⟨#[]⟩, .int .u8 3, .int .i64 0, .int .i64 0, .int .i64 1, .int .i64 6, .string ⟨#[]⟩, .int .u8 10, .int .i64 0, .int .i64 0, .int .i64 0, .int .i64 0, .string ⟨#[]⟩] 62) := ⟨_, rfl⟩
  obtain ⟨w6, hw6⟩ : ∃ w6, w6 = w5.alloc (.cells #[.slice (some ⟨h1, 0, none⟩) 4 4, .int .u8 3, .int .i64 0, .int .i64 0, .int .i64 0] 43) := ⟨_, rfl⟩
  obtain ⟨w7, hw7⟩ : ∃ w7, w7 = w6.alloc (.cells #[.string ⟨#[]⟩, .int .i64 2, .slice none 0 0, .slice (some ⟨h1 + 1, 0, none⟩) 1 1] 25) := ⟨_, rfl⟩
  rw [← hh1, ← hw5, ← hw6, ← hw7]
  have hb45 : Below w4.heap.size w4 w5 := by rw [hw5]; exact (Below.refl _ w4).alloc (Nat.le_refl _) _
  have hs5 : w5.heap.size = h1 + 1 := by rw [hw5, hh1]; exact alloc_size1 _ _
  have hb56 : Below w5.heap.size w5 w6 := by rw [hw6]; exact (Below.refl _ w5).alloc (Nat.le_refl _) _
  have hs6 : w6.heap.size = h1 + 1 + 1 := by rw [hw6, alloc_size1, hs5]
  have hb67 : Below w6.heap.size w6 w7 := by rw [hw7]; exact (Below.refl _ w6).alloc (Nat.le_refl _) _
  have hc5 : k62.C w5 (some ⟨h1, 0, none⟩) 4 aC := by
    have hk := World.alloc_heap_new w4 (.cells #[.int .u8 1, .int .i64 0, .int .i64 0, .int .i64 0, .int .i64 1, .string ⟨#[]⟩, .int .u8 1, .int .i64 1, .int .i64 0, .int .i64 0, .int .i64 2, .string ⟨#[]⟩, .int .u8 3, .int .i64 0, .int .i64 0, .int .i64 1, .int .i64 6, .string ⟨#[]⟩, .int .u8 10, .int .i64 0, .int .i64 0, .int .i64 0, .int .i64 0, .string ⟨#[]⟩] 62)
    rw [← hw5, ← hh1] at hk
    refine C_flat hk aC (by decide) fun j p hp => ?_
    have hj : j < 4 := (List.getElem?_eq_some_iff.1 hp).1
    refine ⟨_, rfl, k62_mk w5 p, fun i u hu => ?_⟩
    have hi : i < 6 := (List.getElem?_eq_some_iff.1 hu).1
    rw [show Kd.sz k62 = 6 from rfl]
    have hjc : j = 0 ∨ j = 1 ∨ j = 2 ∨ j = 3 := by omega
    have hic : i = 0 ∨ i = 1 ∨ i = 2 ∨ i = 3 ∨ i = 4 ∨ i = 5 := by omega
    rcases hjc with rfl | rfl | rfl | rfl <;> (injection hp with hp; subst hp; rcases hic with rfl | rfl | rfl | rfl | rfl | rfl <;> exact hu)
  have hc6 : k43.C w6 (some ⟨h1 + 1, 0, none⟩) 1 aB := by
    have hk := World.alloc_heap_new w5 (.cells #[.slice (some ⟨h1, 0, none⟩) 4 4, .int .u8 3, .int .i64 0, .int .i64 0, .int .i64 0] 43)
    rw [← hw6, hs5] at hk
    refine C_flat hk aB (by decide) fun j p hp => ?_
    have hj : j < 1 := (List.getElem?_eq_some_iff.1 hp).1
    obtain rfl : j = 0 := by omega
    injection hp with hp
    subst hp
    refine ⟨_, rfl, k43_mk w6 ⟨aC, 3, 0, 0, 0⟩ (c0 := 4) (Nat.le_refl _) (Kd.C_below hc5 hb56), fun i u hu => ?_⟩
    have hi : i < 5 := (List.getElem?_eq_some_iff.1 hu).1
    rw [show Kd.sz k43 = 5 from rfl]
    have hic : i = 0 ∨ i = 1 ∨ i = 2 ∨ i = 3 ∨ i = 4 := by omega
    rcases hic with rfl | rfl | rfl | rfl | rfl <;> exact hu
  have hk7 : w7.heap[h1 + 1 + 1]? = some (.cells #[.string ⟨#[]⟩, .int .i64 2, .slice none 0 0, .slice (some ⟨h1 + 1, 0, none⟩) 1 1] 25 (0, 0)) := by rw [hw7, ← hs6]; exact World.alloc_heap_new w6 _
  have hb4 : Below w.heap.size w w4 := HB1.out.trans ((HB2.out.trans ((HB3.out.trans (HB4.out.mono HB3.out.size)).mono HB2.out.size)).mono HB1.out.size)
  have hb7 : Below w.heap.size w w7 := hb4.trans ((hb45.trans ((hb56.trans (hb67.mono hb56.size)).mono hb45.size)).mono hb4.size)
  have HC7 := Lib.hid (Kd.C_below hc6 hb67)
  have HK7 := Lib.hid hk7
  have HB7 := Lib.hid hb7
  clear hc5 hc6 hk7 hb4 hb7 hb45 hb56 hb67 hs5 hs6 hw5 hw6 hw7 hh1 HB1 HB2 HB3 HB4 I1 I2 I3 I4
  have HOF := Lib.hid (aOf HC7.out)
  obtain ⟨z0, z1, z2, z3⟩ := cells4 HK7.out
  go_upto_region 3 with (first
    | (go_at_call 10; refine HOF.out.mono ?_; rintro e w8 ⟨Ai, ci, Ao, co, rfl, hCi, hCo, hlo, hb8⟩; have HCI := Lib.hid hCi; have HCO := Lib.hid hCo; have HLO := Lib.hid hlo; have HB8 := Lib.hid hb8; clear hCi hCo hlo hb8 z0 z1 z2 z3)
    | fail)
  obtain ⟨h4, hh4⟩ : ∃ h4, h4 = w8.heap.size := ⟨_, rfl⟩
  obtain ⟨w9, hw9⟩ : ∃ w9, w9 = w8.alloc (.cells #[.slice Ai 1 ci, .slice Ao 1 co] 30) := ⟨_, rfl⟩
  rw [← hh4, ← hw9]
  have hb89 : Below w8.heap.size w8 w9 := by rw [hw9]; exact (Below.refl _ w8).alloc (Nat.le_refl _) _
  have hk9 : w9.heap[h4]? = some (.cells #[.slice Ai 1 ci, .slice Ao 1 co] 30 (0, 0)) := by rw [hw9, hh4]; exact World.alloc_heap_new w8 _
  have hb79 := HB8.out.trans (hb89.mono HB8.out.size)
  have HC9 := Lib.hid (Kd.C_below HC7.out hb79)
  have HCI9 := Lib.hid (Kd.C_below HCI.out hb89)
  have HCO9 := Lib.hid (Kd.C_below HCO.out hb89)
  have HKF9 := Lib.hid (heap_below HK7.out hb79)
  have HK9 := Lib.hid hk9
  have HB9 := Lib.hid (HB7.out.trans (hb79.mono HB7.out.size))
  have HINF := Lib.hid (aInf HC9.out)
  clear hb89 hk9 hb79 hw9 hh4 HOF HCI HCO HC7 HK7 HB7 HB8
  obtain ⟨z0, z1, z2, z3⟩ := cells4 HKF9.out
  go_upto_region 4 with (first
    | (go_at_call 18; refine HINF.out.mono ?_; rintro e w10 ⟨Al, cl, rfl, hCl, hb10⟩; have HCL := Lib.hid hCl; have HB10 := Lib.hid hb10; clear hCl hb10 z0 z1 z2 z3)
    | fail)
  obtain ⟨adi, A0, c0, rfl, e0, hc0, _⟩ := at_rows (Kd.C_below HCI9.out HB10.out) 0 (by omega) (by omega)
  obtain ⟨adl, L0, d0, rfl, l0, hd0, r0⟩ := at_rows HCL.out 0 (by omega) (by omega)
  obtain ⟨adl', L1, d1, hadl, l1, hd1, r1⟩ := at_rows HCL.out 1 (by omega) (by omega)
  cases hadl
  have ha0 : ∀ a : Addr, a.add (0 : Int).toNat = a := fun a => by cases a; simp [Addr.add]
  rw [ha0] at e0 l0
  rw [show adl.add (1 : Int).toNat = ⟨adl.block, adl.off + 1, none⟩ by unfold Addr.add; simp] at l1
  clear ha0
  have HAW := Lib.hid (show AwW w (h1 + 1) (h1 + 1 + 1) h4 (some adi) ci Ao co adi A0 c0 adl ⟨adl.block, adl.off + 1, none⟩ L0 d0 L1 d1 w10 from ⟨heap_below HKF9.out HB10.out, heap_below HK9.out HB10.out, Kd.C_below HC9.out HB10.out, Kd.C_below HCO9.out HB10.out, e0, l0, l1, r0, r1, HB9.out.trans (HB10.out.mono HB9.out.size)⟩)
  have f1 : slices_Equal_int_int.f 10 [1] [1] = some true := by (show _ = _); kernel_rfl
  have f2 : slices_Equal_int_int.f 10 [0] [0] = some true := by (show _ = _); kernel_rfl
  have f3 : slices_Equal_int_int.f 10 [0, 1] [0, 1] = some true := by (show _ = _); kernel_rfl
  have hd0' : 1 ≤ d0 := hd0
  have hd1' : 1 ≤ d1 := hd1
  have E1 := Lib.hid (fun (W : World) (h : AwW w (h1 + 1) (h1 + 1 + 1) h4 (some adi) ci Ao co adi A0 c0 adl ⟨adl.block, adl.off + 1, none⟩ L0 d0 L1 d1 W) => aEq [1] (by decide) h.r0 hd0' f1)
  have E2 := Lib.hid (fun (W : World) (h : AwW w (h1 + 1) (h1 + 1 + 1) h4 (some adi) ci Ao co adi A0 c0 adl ⟨adl.block, adl.off + 1, none⟩ L0 d0 L1 d1 W) => aEq [0] (by decide) h.r1 hd1' f2)
  have E3 := Lib.hid (fun (W : World) (A : Option Addr) (c : Nat) (h : (Kd.int .i64).C W A 2 [0, 1]) (hc : 2 ≤ c) => aEq (L := A) (d := c) [0, 1] (by decide) h hc f3)
  have B1 := Lib.hid (fun (W : World) (h : AwW w (h1 + 1) (h1 + 1 + 1) h4 (some adi) ci Ao co adi A0 c0 adl ⟨adl.block, adl.off + 1, none⟩ L0 d0 L1 d1 W) => aBef (ci := ci) (Ai := some adi) h.cB h.cO HLO.out)
  clear f1 f2 f3 hd0 hd1 hd0' hd1' hc0 e0 l0 l1 r0 r1 HKF9 HK9 HC9 HCO9 HCI9 HCL HINF HB9 HB10
  have e0 := HAW.out.e0
  have l0 := HAW.out.l0
  have l1 := HAW.out.l1
  obtain ⟨y0, y1⟩ := cells2 HAW.out.b30
  obtain ⟨z0, z1, z2, z3⟩ := cells4 HAW.out.b25
  go_wp2_with (first
    | (go_at_call 14; have hx := HAW13.out; clear hx; refine (E3.out w13 A13 c13 HC13.out hc13).mono ?_; rintro e w14 ⟨rfl, hb14⟩; have HB14 := Lib.hid hb14; clear hb14)
    | (go_at_call 13; refine (B1.out w12 HAW12.out).mono ?_; rintro e w13 ⟨A13, c13, rfl, hc13, hC13, hb13⟩; have HC13 := Lib.hid hC13; have HAW13 := Lib.hid (HAW12.out.step hb13); clear hC13 hb13)
    | (go_at_call 14; have hx := HAW11.out; clear hx; refine (E2.out w11 HAW11.out).mono ?_; rintro e w12 ⟨rfl, hb12⟩; have HAW12 := Lib.hid (HAW11.out.step hb12); clear hb12 e0 l0 l1 y0 y1 z0 z1 z2 z3; have e0 := HAW12.out.e0; have l0 := HAW12.out.l0; have l1 := HAW12.out.l1; obtain ⟨y0, y1⟩ := cells2 HAW12.out.b30; obtain ⟨z0, z1, z2, z3⟩ := cells4 HAW12.out.b25)
    | (go_at_call 14; refine (E1.out w10 HAW.out).mono ?_; rintro e w11 ⟨rfl, hb11⟩; have HAW11 := Lib.hid (HAW.out.step hb11); clear hb11 e0 l0 l1 y0 y1 z0 z1 z2 z3; have e0 := HAW11.out.e0; have l0 := HAW11.out.l0; have l1 := HAW11.out.l1; obtain ⟨y0, y1⟩ := cells2 HAW11.out.b30; obtain ⟨z0, z1, z2, z3⟩ := cells4 HAW11.out.b25)
    | fail)
  go_ret
  exact ⟨rfl, HAW13.out.bw.trans (HB14.out.mono HAW13.out.bw.size)⟩
end Go.Proofs.Ythgodpmahdnnjaa
end
section
namespace Go.Proofs.Ythgodpmahdnnjaa
open Go.RowKit Go.Proofs.YthgodpmahdnnjaaW.PrintWords Go.Proofs.YthgodpmahdnnjaaW.PrintMore Go.Proofs.Ythgodpmahdnnjaa.H
theorem blk_four {w : World} {g : Nat} {t : TypeId} {a b c d : Value} (h : w.heap[g]? = some (.cells #[a, b, c, d] t (0, 0))) (u0 u1 u2 u3 : Value) :
    ((((w.setCell ⟨g, 0, none⟩ u0).setCell ⟨g, 1, none⟩ u1).setCell ⟨g, 2, none⟩ u2).setCell ⟨g, 3, none⟩ u3).heap[g]? = some (.cells #[u0, u1, u2, u3] t (0, 0)) :=
  blk_put (blk_put (blk_put (blk_put h 0 u0 rfl) 1 u1 rfl) 2 u2 rfl) 3 u3 rfl
theorem step_code {ops : Array Oper} {o : Oper} {a : Act} {K : Act → World → Prop} {Q : Exit → Act → World → Prop} {E : Prop} {w8 : World} {base : Nat} (v : Value) (xs : List S80) (p : S62) (hgd : o.guard = none) (s y : Operand)
    (ho : o.op = .call { callee := .builtin .append, args := #[s, y], argTypes := #[77, 77] }) (hs : a.eval s = v) (hx : a.eval y = .slice (some ⟨w8.heap.size, 0, none⟩) 1 1)
    (hR : k80.R 80 w8 base (fun _ => True) v xs) (hi : xs.length ≤ 1000) (hb : base ≤ w8.heap.size)
    (h : ∀ v1 w', k80.R 80 w' base (fun _ => True) v1 (xs ++ [refI p]) → w8.grownBy w' v.ownBlock → K (a.put o.dst v1) w') :
    if Region.wanted o (yielded ops a.tmps) = true then Oper.wp Try.prog o a (w8.alloc (.cells #[.int .u8 p.f0, .int .i64 p.f1, .int .i64 p.f2, .int .i64 p.f3, .int .i64 p.f4, .string p.f5] 80)) K Q else E := by
  obtain ⟨i0, hi0, hz0, hz1, hz2⟩ := info_parts (show (Try.prog.info? 80).map (fun i => (i.zero, i.size, i.bytes)) = some (some (.agg #[.int .u8 0, .int .i64 0, .int .i64 0, .int .i64 0, .int .i64 0, .string ⟨#[]⟩]), 6, 56) by kernel_rfl)
  obtain ⟨h0, inner, hown, hr⟩ := hR
  have hsz : (w8.alloc (.cells #[.int .u8 p.f0, .int .i64 p.f1, .int .i64 p.f2, .int .i64 p.f3, .int .i64 p.f4, .string p.f5] 80)).heap.size = w8.heap.size + 1 := alloc_size1 _ _
  refine step_append_lies _ hgd s y 77 ho base 80 i0 _ 6 56 Try.underlying77 hi0 hz0 hz1 hz2 rfl (by decide) v xs.length inner hs (hown.alloc _) ⟨w8.heap.size, 0, none⟩ 1 1 [.int .u8 p.f0, .int .i64 p.f1, .int .i64 p.f2, .int .i64 p.f3, .int .i64 p.f4, .string p.f5] hx rfl
    (World.news_of_block (cs := #[.int .u8 p.f0, .int .i64 p.f1, .int .i64 p.f2, .int .i64 p.f3, .int .i64 p.f4, .string p.f5]) (World.alloc_heap_new w8 _)) (fun u hu => by simp at hu; rcases hu with rfl | rfl | rfl | rfl | rfl | rfl <;> rfl) (by decide) (by simp [maxLen]; omega) (by omega) (by omega) _ rfl ?_
  intro g cap w' ho' hg' hat _
  have hg8 : w8.grownBy w' v.ownBlock := ⟨hg'.os, hg'.tape, hg'.output, by have := hg'.size; omega, fun k hk hne => (hg'.block k (by omega) hne).trans (Below.heap_alloc w8 _ k hk)⟩
  refine h _ w' (Kd.R_appended (okp := fun _ => False) h0 hr (k80_mkM w8 base _ (refI p)) (fun _ hk => hk.elim) (fun _ _ => trivial) ho' hg8 ?_) hg8
  rcases hat with hat | hat
  · exact .inl hat.symm
  · exact .inr ⟨g, rfl, by rw [hat, hsz]; omega⟩
theorem six_up {W W1 : World} {p : Addr} {a b c d e f : Value} (hb : W1.heap[p.block]? = W.heap[p.block]?) (h : W.cell? p = some a ∧ W.cell? ⟨p.block, p.off + 1, none⟩ = some b ∧ W.cell? ⟨p.block, p.off + 2, none⟩ = some c ∧ W.cell? ⟨p.block, p.off + 3, none⟩ = some d ∧ W.cell? ⟨p.block, p.off + 4, none⟩ = some e ∧ W.cell? ⟨p.block, p.off + 5, none⟩ = some f) :
    W1.cell? p = some a ∧ W1.cell? ⟨p.block, p.off + 1, none⟩ = some b ∧ W1.cell? ⟨p.block, p.off + 2, none⟩ = some c ∧ W1.cell? ⟨p.block, p.off + 3, none⟩ = some d ∧ W1.cell? ⟨p.block, p.off + 4, none⟩ = some e ∧ W1.cell? ⟨p.block, p.off + 5, none⟩ = some f :=
  ⟨(World.cell?_of_block hb).trans h.1, (World.cell?_of_block (a := ⟨p.block, p.off + 1, none⟩) hb).trans h.2.1, (World.cell?_of_block (a := ⟨p.block, p.off + 2, none⟩) hb).trans h.2.2.1, (World.cell?_of_block (a := ⟨p.block, p.off + 3, none⟩) hb).trans h.2.2.2.1, (World.cell?_of_block (a := ⟨p.block, p.off + 4, none⟩) hb).trans h.2.2.2.2.1, (World.cell?_of_block (a := ⟨p.block, p.off + 5, none⟩) hb).trans h.2.2.2.2.2⟩
set_option maxHeartbeats 8000000 in
set_option maxRecDepth 100000 in
theorem Plain_calls (nm : ByteArray) (R : Int) (A2 : Option Addr) (n2 c2 : Nat) (A3 : Option Addr) (c3 : Nat) (B : List S43) (w : World) (hC3 : k43.C w A3 B.length B) (hn : B.length ≤ 1000) (hcode : ∀ x ∈ B, x.f0.length ≤ 1000) :
    Calls Try.prog 11 #[.agg #[.string nm, .int .i64 R, .slice A2 n2 c2, .slice A3 B.length c3]] w
      fun e w' => ∃ A c, e = .returned (.agg #[.string nm, .int .i64 R, .slice A2 n2 c2, .slice A B.length c]) ∧ B.length ≤ c ∧ k79.C w' A B.length (B.map refB) ∧ Below w.heap.size w w' := by
  have HC3 := Lib.hid hC3
  have HCO := Lib.hid hcode
  clear hC3 hcode
  go_enter Try.func11, Try.ntmps11
  go_upto_region 2 with (first
    | ((with_reducible refine gate_dst (N := 1) rfl ?_); refine box_event ?hg (N := 1) ?hd (cs := #[.string nm, .int .i64 R, .slice A2 n2 c2, .slice A3 B.length c3]) (t := 25) ?hr ?_; (case hd => rfl); (case hg => rfl); (case hr => first | (go_simp; done) | (go_simp; rfl)); intro g1 hg1 w1 hbox1 hbw1; obtain ⟨z0, z1, z2, z3⟩ := cells4 hbox1; have BK1 := Lib.hid hbox1; have HBW1 := Lib.hid hbw1; have HG1 := Lib.hid hg1; clear hbox1 hbw1 hg1)
    | ((with_reducible refine gate_dst (N := 2) rfl ?_); refine box_event ?hg (N := 2) ?hd (cs := #[.string ⟨#[]⟩, .int .i64 0, .slice none 0 0, .slice none 0 0]) (t := 36) ?hr ?_; (case hd => rfl); (case hg => rfl); (case hr => first | (go_simp; done) | (go_simp; rfl)); intro g2 hg2 w2 hbox2 hbw2; have BK2 := Lib.hid hbox2; have BK12 := Lib.hid (heap_below BK1.out hbw2); have HBW2 := Lib.hid hbw2; have HG2 := Lib.hid hg2; clear hbox2 hbw2 hg2 z0 z1 z2 z3; obtain ⟨z0, z1, z2, z3⟩ := cells4 BK12.out)
    | ((with_reducible refine gate_dst (N := 3) rfl ?_); refine box_event ?hg (N := 3) ?hd (cs := #[.string ⟨#[]⟩, .int .i64 0, .slice none 0 0, .slice none 0 0]) (t := 36) ?hr ?_; (case hd => rfl); (case hg => rfl); (case hr => first | (go_simp; done) | (go_simp; rfl)); intro g3 hg3 w3 hbox3 hbw3; have BK3 := Lib.hid hbox3; have HBW3 := Lib.hid hbw3; have HG3 := Lib.hid hg3; have f0 := blk_frozen hbox3 0; have f1 := blk_frozen hbox3 1; have f2 := blk_frozen hbox3 2; have f3 := blk_frozen hbox3 3; obtain ⟨y0, y1, y2, y3⟩ := cells4 hbox3; clear hbox3 hbw3 hg3)
    | fail)
  have hg3l : w.heap.size ≤ g3 := by rw [HG3.out]; exact (HBW1.out.trans (HBW2.out.mono HBW1.out.size)).size
  have hg2l : w.heap.size ≤ g2 := by rw [HG2.out]; exact HBW1.out.size
  obtain ⟨w4, hw4⟩ : ∃ w4, w4 = ((((w3.setCell ⟨g3, 0, none⟩ (.string nm)).setCell ⟨g3, 1, none⟩ (.int .i64 R)).setCell ⟨g3, 2, none⟩ (.slice A2 n2 c2)).setCell ⟨g3, 3, none⟩ (.slice none 0 0)) := ⟨_, rfl⟩
  rw [← hw4]
  have hb03 : Below w.heap.size w w3 := HBW1.out.trans ((HBW2.out.trans (HBW3.out.mono HBW2.out.size)).mono HBW1.out.size)
  have hb4 : Below w.heap.size w w4 := by
    rw [hw4]
    exact ((((hb03).setCell (p := ⟨g3, 0, none⟩) hg3l _).setCell (p := ⟨g3, 1, none⟩) hg3l _).setCell (p := ⟨g3, 2, none⟩) hg3l _).setCell (p := ⟨g3, 3, none⟩) hg3l _
  have hk3 : w4.heap[g3]? = some (.cells #[.string nm, .int .i64 R, .slice A2 n2 c2, .slice none 0 0] 36 (0, 0)) := by rw [hw4]; exact blk_four BK3.out _ _ _ _
  have hbw2' : Below w2.heap.size w2 w4 := by
    rw [hw4]
    have hg3' : w2.heap.size ≤ g3 := by rw [HG3.out]; exact Nat.le_refl _
    exact ((((HBW3.out).setCell (p := ⟨g3, 0, none⟩) hg3' _).setCell (p := ⟨g3, 1, none⟩) hg3' _).setCell (p := ⟨g3, 2, none⟩) hg3' _).setCell (p := ⟨g3, 3, none⟩) hg3' _
  have hk1 := heap_below BK12.out hbw2'
  have hk2 := heap_below BK2.out hbw2'
  have h23 : g2 ≠ g3 := by have := heap_lt BK2.out; rw [HG3.out]; omega
  have HB4 := Lib.hid hb4
  have HK1 := Lib.hid hk1
  have HK2 := Lib.hid hk2
  have HK3 := Lib.hid hk3
  have H23 := Lib.hid h23
  have HG2L := Lib.hid hg2l
  have HG3L := Lib.hid hg3l
  clear hw4 hb03 hb4 hk3 hbw2' hk1 hk2 h23 hg2l hg3l HG1 HG2 HG3 BK1 BK2 BK3 BK12 HBW1 HBW2 HBW3 z0 z1 z2 z3 y0 y1 y2 y3 f0 f1 f2 f3
  go_wp2
  go_loopw [4] (fun v wr => ∃ (i : Nat) (v3 : Value), i ≤ B.length ∧ v = .int .i64 i ∧ k79.R 79 wr w.heap.size (fun _ => True) v3 ((B.take i).map refB) ∧ wr.heap[g1]? = some (.cells #[.string nm, .int .i64 R, .slice A2 n2 c2, .slice A3 B.length c3] 25 (0, 0)) ∧ wr.heap[g2]? = some (.cells #[.string ⟨#[]⟩, .int .i64 0, .slice none 0 0, .slice none 0 0] 36 (0, 0)) ∧ wr.heap[g3]? = some (.cells #[.string nm, .int .i64 R, .slice A2 n2 c2, v3] 36 (0, 0)) ∧ Below w.heap.size w wr) (fun v _ => B.length - (intOf v).toNat)
  case atStart => exact ⟨0, _, Nat.zero_le _, rfl, Kd.R_nil _ _ _ _ _, HK1.out, HK2.out, HK3.out, HB4.out⟩
  case round =>
    clear HK1 HK2 HK3 HB4
    obtain ⟨i, v3, hi, rfl, hR3, hk1, hk2, hk3, hb⟩ := hrel
    obtain ⟨wo, rfl⟩ : ∃ wo, wo = wr := ⟨_, rfl⟩
    obtain ⟨z0, z1, z2, z3⟩ := cells4 hk1
    obtain ⟨y0, y1, y2, y3⟩ := cells4 hk3
    by_cases hlt : i < B.length
    · obtain ⟨ad, A0, c0, hA3, q0, q1, q2, q3, q4, hl0, hC0⟩ := at_T43 (Kd.C_below HC3.out hb) (i : Int) (by omega) (by omega)
      subst hA3
      rw [Int.toNat_natCast] at q0 q1 q2 q3 q4
      have hrd : rd_T43 B (i : Int) = B.getD i z43 := by unfold rd_T43; rw [Int.toNat_natCast]
      rw [hrd] at q0 q1 q2 q3 q4 hl0 hC0
      have hmem := memB hlt
      have hstep : (B.take (i + 1)).map refB = (B.take i).map refB ++ [refB (B.getD i z43)] := by
        rw [List.take_succ_eq_append_getElem hlt, List.map_append, List.getD_eq_getElem?_getD, List.getElem?_eq_getElem hlt]; rfl
      obtain ⟨x, hx⟩ : ∃ x, x = B.getD i z43 := ⟨_, rfl⟩
      rw [← hx] at q0 q1 q2 q3 q4 hl0 hC0 hstep hmem
      have hcl := HCO.out x hmem
      have q1' : wo.cell? ⟨(ad.add (i * 5)).block, (ad.add (i * 5)).off + 1, none⟩ = some (.int .u8 x.f1) := q1
      have q2' : wo.cell? ⟨(ad.add (i * 5)).block, (ad.add (i * 5)).off + 2, none⟩ = some (.int .i64 x.f2) := q2
      have q3' : wo.cell? ⟨(ad.add (i * 5)).block, (ad.add (i * 5)).off + 3, none⟩ = some (.int .i64 x.f3) := q3
      have q4' : wo.cell? ⟨(ad.add (i * 5)).block, (ad.add (i * 5)).off + 4, none⟩ = some (.int .i64 x.f4) := q4
      have HC0 := Lib.hid hC0
      have HST := Lib.hid hstep
      have HR3 := Lib.hid hR3
      have HK1 := Lib.hid hk1
      have HK2 := Lib.hid hk2
      have HK3 := Lib.hid hk3
      have HB := Lib.hid hb
      clear hC0 hstep hR3 hk1 hk2 hk3 hb hrd hx hmem q1 q2 q3 q4 y0 y1 y2 y3
      go_upto_region 6 with (first
        | ((with_reducible refine gate_dst (N := 5) rfl ?_); refine box_event ?hg (N := 5) ?hd (cs := #[.slice none 0 0, .int .u8 0, .int .i64 0, .int .i64 0, .int .i64 0]) (t := 43) ?hr ?_; (case hd => rfl); (case hg => rfl); (case hr => first | (go_simp; done) | (go_simp; rfl)); intro g5 hg5 w5 hbox5 hbw5; obtain ⟨y0, y1, y2, y3, y4⟩ := cells5 hbox5; have f0 := blk_frozen hbox5 0; have f1 := blk_frozen hbox5 1; have f2 := blk_frozen hbox5 2; have f3 := blk_frozen hbox5 3; have f4 := blk_frozen hbox5 4; have BK5 := Lib.hid hbox5; have HBW5 := Lib.hid hbw5; have HG5 := Lib.hid hg5; clear hbox5 hbw5 hg5)
        | fail)
      have hg5l : wo.heap.size ≤ g5 := by rw [HG5.out]; exact Nat.le_refl _
      obtain ⟨w6, hw6⟩ : ∃ w6, w6 = (((((w5.setCell ⟨g5, 0, none⟩ (.slice A0 x.f0.length c0)).setCell ⟨g5, 1, none⟩ (.int .u8 x.f1)).setCell ⟨g5, 2, none⟩ (.int .i64 x.f2)).setCell ⟨g5, 3, none⟩ (.int .i64 x.f3)).setCell ⟨g5, 4, none⟩ (.int .i64 x.f4)) := ⟨_, rfl⟩
      have hb6 : Below wo.heap.size wo w6 := by
        rw [hw6]
        exact ((((HBW5.out.setCell (p := ⟨g5, 0, none⟩) hg5l _).setCell (p := ⟨g5, 1, none⟩) hg5l _).setCell (p := ⟨g5, 2, none⟩) hg5l _).setCell (p := ⟨g5, 3, none⟩) hg5l _).setCell (p := ⟨g5, 4, none⟩) hg5l _
      have hk6 : w6.heap[g5]? = some (.cells #[.slice A0 x.f0.length c0, .int .u8 x.f1, .int .i64 x.f2, .int .i64 x.f3, .int .i64 x.f4] 43 (0, 0)) := by rw [hw6]; exact blk_five BK5.out _ _ _ _ _
      rw [← hw6]
      have HB6 := Lib.hid hb6
      have HK56 := Lib.hid hk6
      clear hw6 hb6 hk6 hg5l y0 y1 y2 y3 y4 f0 f1 f2 f3 f4 q0 q1' q2' q3' q4' BK5 HBW5 HG5 z0 z1 z2 z3
      obtain ⟨y0, y1, y2, y3, y4⟩ := cells5 HK56.out
      go_upto_region 7 with (first
        | ((with_reducible refine gate_dst (N := 6) rfl ?_); refine box_event ?hg (N := 6) ?hd (cs := #[.slice none 0 0, .int .u8 0, .int .i64 0, .int .i64 0, .int .i64 0]) (t := 79) ?hr ?_; (case hd => rfl); (case hg => rfl); (case hr => first | (go_simp; done) | (go_simp; rfl)); intro g6 hg6 w7 hbox7 hbw7; obtain ⟨s0, s1, s2, s3, s4⟩ := cells5 hbox7; have f0 := blk_frozen hbox7 0; have f1 := blk_frozen hbox7 1; have f2 := blk_frozen hbox7 2; have f3 := blk_frozen hbox7 3; have f4 := blk_frozen hbox7 4; have BK7 := Lib.hid hbox7; have HBW7 := Lib.hid hbw7; have HG6 := Lib.hid hg6; clear hbox7 hbw7 hg6)
        | fail)
      have hg6l : w6.heap.size ≤ g6 := by rw [HG6.out]; exact Nat.le_refl _
      obtain ⟨w8, hw8⟩ : ∃ w8, w8 = (((((w7.setCell ⟨g6, 0, none⟩ (.slice none 0 0)).setCell ⟨g6, 1, none⟩ (.int .u8 x.f1)).setCell ⟨g6, 2, none⟩ (.int .i64 x.f2)).setCell ⟨g6, 3, none⟩ (.int .i64 x.f3)).setCell ⟨g6, 4, none⟩ (.int .i64 x.f4)) := ⟨_, rfl⟩
      have hb8 : Below w6.heap.size w6 w8 := by
        rw [hw8]
        exact ((((HBW7.out.setCell (p := ⟨g6, 0, none⟩) hg6l _).setCell (p := ⟨g6, 1, none⟩) hg6l _).setCell (p := ⟨g6, 2, none⟩) hg6l _).setCell (p := ⟨g6, 3, none⟩) hg6l _).setCell (p := ⟨g6, 4, none⟩) hg6l _
      have hk8 : w8.heap[g6]? = some (.cells #[.slice none 0 0, .int .u8 x.f1, .int .i64 x.f2, .int .i64 x.f3, .int .i64 x.f4] 79 (0, 0)) := by rw [hw8]; exact blk_five BK7.out _ _ _ _ _
      rw [← hw8]
      have hb08 : Below wo.heap.size wo w8 := HB6.out.trans (hb8.mono HB6.out.size)
      have HB08 := Lib.hid hb08
      have HK58 := Lib.hid (heap_below HK56.out hb8)
      have HK8 := Lib.hid hk8
      have h56 : g5 ≠ g6 := by have := heap_lt HK56.out; omega
      have h6w : wo.heap.size ≤ g6 := Nat.le_trans HB6.out.size hg6l
      have H56 := Lib.hid h56
      have H6W := Lib.hid h6w
      clear hw8 hb8 hk8 hb08 h56 hg6l h6w y0 y1 y2 y3 y4 s0 s1 s2 s3 s4 f0 f1 f2 f3 f4 BK7 HBW7 HG6 HB6 HK56
      go_wp2
      go_loopw [7] (fun v wq => ∃ (j : Nat) (v6 : Value), j ≤ x.f0.length ∧ v = .int .i64 j ∧ k80.R 80 wq w8.heap.size (fun _ => True) v6 ((x.f0.take j).map refI) ∧ wq.heap[g6]? = some (.cells #[v6, .int .u8 x.f1, .int .i64 x.f2, .int .i64 x.f3, .int .i64 x.f4] 79 (0, 0)) ∧ Kept w8 wq (fun k => k = g6) ∧ Below wo.heap.size wo wq) (fun v _ => x.f0.length - (intOf v).toNat)
      case atStart => exact ⟨0, _, Nat.zero_le _, rfl, Kd.R_nil _ _ _ _ _, HK8.out, Kept.refl _ _, HB08.out⟩
      case round =>
        obtain ⟨j, v6, hj, rfl, hR6, hk6, hkq, hbq⟩ := hrel
        obtain ⟨wq, rfl⟩ : ∃ wq, wq = wr := ⟨_, rfl⟩
        have hk5 : wq.heap[g5]? = _ := (hkq.2 g5 (heap_lt HK58.out) H56.out).trans HK58.out
        obtain ⟨y0, y1, y2, y3, y4⟩ := cells5 hk5
        obtain ⟨s0, s1, s2, s3, s4⟩ := cells5 hk6
        by_cases hjl : j < x.f0.length
        · obtain ⟨ax, hA0, i0, i1, i2, i3, i4, i5⟩ := at_T62 HC0.out (j : Int) (by omega) (by omega)
          subst hA0
          rw [Int.toNat_natCast] at i0 i1 i2 i3 i4 i5
          have hrd : rd_T62 x.f0 (j : Int) = x.f0.getD j z62 := by unfold rd_T62; rw [Int.toNat_natCast]
          rw [hrd] at i0 i1 i2 i3 i4 i5
          have hst : (x.f0.take (j + 1)).map refI = (x.f0.take j).map refI ++ [refI (x.f0.getD j z62)] := by
            rw [List.take_succ_eq_append_getElem hjl, List.map_append, List.getD_eq_getElem?_getD, List.getElem?_eq_getElem hjl]; rfl
          have hjn : ((x.f0.take j).map refI).length ≤ 1000 := by rw [List.length_map, List.length_take]; omega
          obtain ⟨y, hy⟩ : ∃ y, y = x.f0.getD j z62 := ⟨_, rfl⟩
          rw [← hy] at i0 i1 i2 i3 i4 i5 hst
          obtain ⟨cds, hcds⟩ : ∃ cds, cds = (x.f0.take j).map refI := ⟨_, rfl⟩
          rw [← hcds] at hR6 hst hjn
          obtain ⟨px, hpx⟩ : ∃ px, px = ax.add (j * 6) := ⟨_, rfl⟩
          rw [← hpx] at i0 i1 i2 i3 i4 i5
          have hpl : px.block < wo.heap.size := World.block_lt_of_cell? wo _ i0
          have hpg : px.block ≠ g6 := by have := H6W.out; omega
          have hsix := six_up (hbq.block px.block hpl) ⟨i0, i1, i2, i3, i4, i5⟩
          have hsixa := six_up (Below.heap_alloc wq (.cells #[.int .u8 y.f0, .int .i64 y.f1, .int .i64 y.f2, .int .i64 y.f3, .int .i64 y.f4, .string y.f5] 80) px.block (by have := hbq.size; omega)) hsix
          have hsy := hbq.size
          have hn5 : some g5 ≠ v6.ownBlock := fun e => by have h1 := Kd.R_base hR6 g5 e.symm; have h2 := heap_lt HK58.out; omega
          have hn6 : some g6 ≠ v6.ownBlock := fun e => by have h1 := Kd.R_base hR6 g6 e.symm; have h2 := heap_lt HK8.out; omega
          have hnp : some px.block ≠ v6.ownBlock := fun e => by have h1 := Kd.R_base hR6 px.block e.symm; have h2 := HB08.out.size; omega
          have hl5 := heap_lt hk5
          have hl6 := heap_lt hk6
          have HSIX := Lib.hid hsix
          have HSI := Lib.hid hst
          have HR6 := Lib.hid hR6
          have HK5 := Lib.hid hk5
          have HK6 := Lib.hid hk6
          have HKQ := Lib.hid hkq
          have HBQ := Lib.hid hbq
          obtain ⟨i0', i1', i2', i3', i4', i5'⟩ := hsix
          obtain ⟨j0, j1, j2, j3, j4, j5⟩ := hsixa
          have y0a := cell_up y0 ((Below.refl wq.heap.size wq).alloc (Nat.le_refl _) (.cells #[.int .u8 y.f0, .int .i64 y.f1, .int .i64 y.f2, .int .i64 y.f3, .int .i64 y.f4, .string y.f5] 80))
          have s0a := cell_up s0 ((Below.refl wq.heap.size wq).alloc (Nat.le_refl _) (.cells #[.int .u8 y.f0, .int .i64 y.f1, .int .i64 y.f2, .int .i64 y.f3, .int .i64 y.f4, .string y.f5] 80))
          clear hst hR6 hk6 hkq hbq hk5 hy hcds hrd i0 i1 i2 i3 i4 i5
          go_upto_region 10 with fail
          subst hpx
          have HRD := Lib.hid (Kd.R_below HR6.out (Below.refl _ wq).drew)
          have hb8q : w8.heap.size ≤ wq.drew.heap.size := HKQ.out.1
          go_region_law
            (first
            | (refine step_code (w8 := wq.drew) v6 cds y rfl _ _ rfl rfl rfl HRD.out hjn hb8q ?_; intro v9 w9 hR9 hg9; obtain ⟨A9, c9, rfl⟩ := Kd.R_slice hR9; have h6 := hg9.block (ax.add (j * 6)).block (Nat.lt_of_lt_of_le hpl hsy) hnp; obtain ⟨k0, k1, k2, k3, k4, k5⟩ := six_up h6 HSIX.out; have k5b := (hg9.block g5 hl5 hn5).trans HK5.out; have k6b := (hg9.block g6 hl6 hn6).trans HK6.out; have n5 := (blk_cell k5b 0).trans rfl; have n6 := (blk_cell k6b 0).trans rfl; have fr := blk_frozen k6b 0; obtain ⟨t0, t1, t2, t3, t4, t5⟩ := six_up (Below.heap_setCell w9 ⟨g6, 0, none⟩ (.slice A9 (cds.length + 1) c9) (ax.add (j * 6)).block hpg) ⟨k0, k1, k2, k3, k4, k5⟩; have o5 := (World.cell?_of_block (a := ⟨g5, 0, none⟩) (Below.heap_setCell w9 ⟨g6, 0, none⟩ (.slice A9 (cds.length + 1) c9) g5 H56.out)).trans n5; have HK9 := Lib.hid k6b; have HR9 := Lib.hid hR9; have HG9 := Lib.hid hg9; clear hR9 hg9 h6 k5b k6b)
            | fail)
          all_goals
            have hty : ∀ q, q ∈ 80 :: k80.E → q ≠ 79 := by decide
            have HX1 := Lib.hid (Kd.R_set HR9.out HK9.out hty 0 (.slice A9 (cds.length + 1) c9))
            have HX2 := Lib.hid (blk_put HK9.out 0 (.slice A9 (cds.length + 1) c9) rfl)
            have HX3 := Lib.hid (((HKQ.out.drew).of_grown HG9.out (fun k hk => .inr (Kd.R_base HR6.out k hk))).setCell (p := ⟨g6, 0, none⟩) (.inl rfl) (.slice A9 (cds.length + 1) c9))
            have HX4 := Lib.hid ((HBQ.out.drew.grown HG9.out HBQ.out.size (fun k hk => Nat.le_trans HB08.out.size (Kd.R_base HR6.out k hk))).setCell (p := ⟨g6, 0, none⟩) H6W.out (.slice A9 (cds.length + 1) c9))
            clear hty
            rw [show (cds ++ [refI y]).length = cds.length + 1 by simp] at HX1
            go_wp2_with fail
            go_roundw
            case rel => exact ⟨j + 1, _, by omega, by go_num, HSI.out ▸ HX1.out, HX2.out, HX3.out, HX4.out⟩
            case measure => simp [intOf]; omega
        · have e : j = x.f0.length := by omega
          rw [e, List.take_length] at hR6
          subst e
          obtain ⟨A6, c6, rfl⟩ := Kd.R_slice hR6
          rw [List.length_map] at hR6 hk6 s0
          have hlt8 := HB08.out.size
          have hww := HB.out.size
          have hk3q := heap_below HK3.out hbq
          obtain ⟨z0, z1, z2, z3⟩ := cells4 hk3q
          have f3 := blk_frozen hk3q 3
          have HI := Lib.hid (show (Try.prog.info? 79).map (fun i => (i.zero, i.size, i.bytes)) = some (some (.agg #[.slice none 0 0, .int .u8 0, .int .i64 0, .int .i64 0, .int .i64 0]), 5, 56) by kernel_rfl)
          have HP := Lib.hid (k79_mkM wq w.heap.size (fun k => w8.heap.size ≤ k) (refB x) (Kd.R_lower (Kd.R_mono (Kd.R_bound hR6) (fun k hk => hk.2.1)) (Nat.le_trans hww hlt8)))
          have HOKP := Lib.hid (show ∀ k, w8.heap.size ≤ k → True ∧ some k ≠ v3.ownBlock from fun k hk => ⟨trivial, fun e => by have := Kd.R_lt HR3.out k e.symm; omega⟩)
          have HO := Lib.hid (Kd.R_below HR3.out hbq)
          have HBQ := Lib.hid (HB.out.trans (hbq.mono HB.out.size))
          have HBO := Lib.hid hbq
          have hli : (((B.take i).map refB).length + 1) * 56 ≤ 140737488355328 := by rw [List.length_map, List.length_take]; omega
          have HK3Q := Lib.hid hk3q
          clear hk3q hk6 hkq hk5 hbq hR6
          go_wp2_with (first
            | (at_builtin; refine Kd.R_append k79 (w0 := w) w.heap.size rfl _ _ 34 79 _ 56 rfl Try.underlying34 HI.out rfl (by decide) (by decide) v3 ((B.take i).map refB) (refB x) [.slice A6 x.f0.length c6, .int .u8 x.f1, .int .i64 x.f2, .int .i64 x.f3, .int .i64 x.f4] (fun _ => True) (fun k => w8.heap.size ≤ k) rfl rfl HP.out HOKP.out (fun _ _ => trivial) HO.out HBQ.out HBQ.out.size hli ?_; intro v9 w9 hR9 hb9 hg9 _; obtain ⟨A9, c9, rfl⟩ := Kd.R_slice hR9; have hne3 := Kd.R_ne HO.out HK3Q.out (by decide); have k3 := (hg9.block g3 (heap_lt HK3Q.out) hne3).trans HK3Q.out; obtain ⟨t0, t1, t2, t3⟩ := cells4 k3; have f3' := blk_frozen k3 3; have HK39 := Lib.hid k3; have HR9 := Lib.hid hR9; have HG9 := Lib.hid hg9; have HB9 := Lib.hid hb9; clear hR9 hg9 hb9 k3)
            | fail)
          have hln : ((B.take i).map refB ++ [refB x]).length = i + 1 := by rw [List.length_append, List.length_map, List.length_take, List.length_singleton]; omega
          rw [hln] at HR9
          have hty : ∀ q, q ∈ 79 :: k79.E → q ≠ 36 := by decide
          have h1q := heap_below HK1.out HBO.out
          have h2q := heap_below HK2.out HBO.out
          have h1n := (HG9.out.block g1 (heap_lt h1q) (Kd.R_ne HO.out h1q (by decide))).trans h1q
          have h2n := (HG9.out.block g2 (heap_lt h2q) (Kd.R_ne HO.out h2q (by decide))).trans h2q
          have h13 : g1 ≠ g3 := blk_ne HK1.out HK3.out (by decide)
          have HX1 := Lib.hid (Kd.R_set HR9.out HK39.out hty 3 (.slice A9 (i + 1) c9))
          have HX2 := Lib.hid ((Below.heap_setCell w9 ⟨g3, 3, none⟩ (.slice A9 (i + 1) c9) g1 h13).trans h1n)
          have HX3 := Lib.hid ((Below.heap_setCell w9 ⟨g3, 3, none⟩ (.slice A9 (i + 1) c9) g2 H23.out).trans h2n)
          have HX4 := Lib.hid (blk_put HK39.out 3 (.slice A9 (i + 1) c9) rfl)
          have HX5 := Lib.hid (HB9.out.setCell (p := ⟨g3, 3, none⟩) HG3L.out (.slice A9 (i + 1) c9))
          clear hty h1q h2q h1n h2n h13 hln
          go_roundw
          case rel => exact ⟨i + 1, _, by omega, by go_num, HST.out ▸ HX1.out, HX2.out, HX3.out, HX4.out, HX5.out⟩
          case measure => simp [intOf]; omega
    · have e : i = B.length := by omega
      rw [e, List.take_length] at hR3
      subst e
      obtain ⟨A, c, rfl, hl, hC⟩ := Kd.R_reads hR3
      rw [List.length_map] at *
      have f0 := blk_frozen hk2 0
      have f1 := blk_frozen hk2 1
      have f2 := blk_frozen hk2 2
      have f3 := blk_frozen hk2 3
      obtain ⟨x0, x1, x2, x3⟩ := cells4 hk2
      have HC := Lib.hid hC
      have HR3 := Lib.hid hR3
      have HB := Lib.hid hb
      have HK2 := Lib.hid hk2
      clear hC hR3 hb hk2 hk1 hk3
      go_wp2
      have hty : ∀ q, q ∈ 79 :: k79.E → q ≠ 36 := by decide
      have hkz := blk_four HK2.out (.string nm) (.int .i64 R) (.slice A2 n2 c2) (.slice A B.length c)
      have hR4 := Kd.R_set (Kd.R_set (Kd.R_set (Kd.R_set HR3.out HK2.out hty 0 (.string nm)) (blk_put HK2.out 0 (.string nm) rfl) hty 1 (.int .i64 R)) (blk_put (blk_put HK2.out 0 (.string nm) rfl) 1 (.int .i64 R) rfl) hty 2 (.slice A2 n2 c2)) (blk_put (blk_put (blk_put HK2.out 0 (.string nm) rfl) 1 (.int .i64 R) rfl) 2 (.slice A2 n2 c2) rfl) hty 3 (.slice A B.length c)
      have HBZ := Lib.hid ((((HB.out.setCell (p := ⟨g2, 0, none⟩) HG2L.out (.string nm)).setCell (p := ⟨g2, 1, none⟩) HG2L.out (.int .i64 R)).setCell (p := ⟨g2, 2, none⟩) HG2L.out (.slice A2 n2 c2)).setCell (p := ⟨g2, 3, none⟩) HG2L.out (.slice A B.length c))
      obtain ⟨wz, hwz⟩ : ∃ wz, wz = ((((wo.setCell ⟨g2, 0, none⟩ (.string nm)).setCell ⟨g2, 1, none⟩ (.int .i64 R)).setCell ⟨g2, 2, none⟩ (.slice A2 n2 c2)).setCell ⟨g2, 3, none⟩ (.slice A B.length c)) := ⟨_, rfl⟩
      rw [← hwz] at hkz hR4 HBZ ⊢
      have HRZ := Lib.hid hR4
      clear hwz hR4 hty x0 x1 x2 x3 f0 f1 f2 f3 z0 z1 z2 z3 y0 y1 y2 y3
      obtain ⟨x0, x1, x2, x3⟩ := cells4 hkz
      (try simp only [Exit.inBlock, Exit.then])
      refine bodyPost_ret (v := .agg #[.string nm, .int .i64 R, .slice A2 n2 c2, .slice A B.length c]) ?hr rfl ?_
      case hr =>
        unfold results
        rw [show Try.f11.results = #[.cell 2 36] from rfl]
        simp
        go_simp
      obtain ⟨_, hlz, hCz⟩ := Kd.R_reads' HRZ.out
      rw [List.length_map] at hCz
      exact ⟨A, c, rfl, hlz, hCz, HBZ.out⟩
end Go.Proofs.Ythgodpmahdnnjaa
end
section
namespace Go.Proofs.Ythgodpmahdnnjaa
open Go.RowKit Go.Proofs.YthgodpmahdnnjaaW.PrintWords Go.Proofs.YthgodpmahdnnjaaW.PrintMore Go.Proofs.Ythgodpmahdnnjaa.H
section
variable {nm : ByteArray} {ar : List S107} {B : List S43} {N : Nat} {I O : Nat → Nat}
end
theorem eq_l0 (xs : List Int) (hn : xs.length ≤ 1000) : ∀ (d i k : Nat), i + d = xs.length → d < k → slices_Equal_int_int.l0 k xs xs (xs.length : Int) (i : Int) = some true
  | 0, i, k, hi, hk => by
    obtain ⟨k, rfl⟩ := k_add hk
    rw [slices_Equal_int_int.l0, if_neg (by omega)]
  | d + 1, i, k, hi, hk => by
    obtain ⟨k, rfl⟩ := k_add (show 1 ≤ k by omega)
    rw [slices_Equal_int_int.l0, if_pos (by omega), if_pos (by omega), if_pos (by omega), if_pos (by omega), if_pos rfl, wr64 (by omega)]
    exact eq_l0 xs hn d (i + 1) k (by omega) (by omega)
theorem eq_self (xs : List Int) (hn : xs.length ≤ 1000) : slices_Equal_int_int.f 1001 xs xs = some true := by
  unfold slices_Equal_int_int.f
  rw [if_pos rfl]
  exact eq_l0 xs hn xs.length 0 1001 (by omega) (by omega)
section
variable {w0 : World} {nm : ByteArray} {N : Nat} {A2 : Option Addr} {ar : List S107} {c2 : Nat} {A3 : Option Addr} {c3 : Nat} {B : List S43} {Ai : Option Addr} {ci : Nat} {Ao : Option Addr} {co : Nat} {Am : Option Addr} {cm : Nat} {I O : Nat → Nat} {gf gs gm : Nat} {W W1 : World}
end
theorem lsEq {W : World} {L L' : Option Addr} {d d' : Nat} (xs : List Int) (hn : xs.length ≤ 1000) (hC : (Kd.int .i64).C W L xs.length xs) (hd : xs.length ≤ d) (hC' : (Kd.int .i64).C W L' xs.length xs) (hd' : xs.length ≤ d') :
    Calls Try.prog 14 #[.slice L xs.length d, .slice L' xs.length d'] W fun e w' => e = .returned (.bool true) ∧ Below W.heap.size W w' := by
  refine (slices_Equal_int_int.calls 1001 L d xs L' d' xs true _ hC hd hC' hd' (eq_self xs hn)).mono ?_
  rintro e w' ⟨rfl, h⟩
  exact ⟨rfl, h.below⟩
end Go.Proofs.Ythgodpmahdnnjaa
end
section
namespace Go.Proofs.Ythgodpmahdnnjaa
open Go.RowKit Go.Proofs.YthgodpmahdnnjaaW.PrintWords Go.Proofs.YthgodpmahdnnjaaW.PrintMore Go.Proofs.YthgodpmahdnnjaaW.PrintLast Go.Proofs.Ythgodpmahdnnjaa.H
theorem eqA_I (d : Nat) (w : World) (x0 x1 x2 x3 x4 y0 y1 y2 y3 y4 : Int) (x5 y5 : ByteArray) :
    (Op.equalIn (d + 2) 62 (.agg #[.int .u8 x0, .int .i64 x1, .int .i64 x2, .int .i64 x3, .int .i64 x4, .string x5]) (.agg #[.int .u8 y0, .int .i64 y1, .int .i64 y2, .int .i64 y3, .int .i64 y4, .string y5])).run Try.prog w = .ok (x0 == y0 && (x1 == y1 && (x2 == y2 && (x3 == y3 && (x4 == y4 && (x5.toList == y5.toList)))))) w := by
  refine eqA_of Try.underlying62 (by kernel_rfl) ?_
  refine eqf_cons (by rfl) (by go_simp; rfl) (by go_simp; rfl) (by go_simp) ?_
  refine eqf_cons (by rfl) (by go_simp; rfl) (by go_simp; rfl) (by go_simp) ?_
  refine eqf_cons (by rfl) (by go_simp; rfl) (by go_simp; rfl) (by go_simp) ?_
  refine eqf_cons (by rfl) (by go_simp; rfl) (by go_simp; rfl) (by go_simp) ?_
  refine eqf_cons (by rfl) (by go_simp; rfl) (by go_simp; rfl) (by go_simp) ?_
  exact eqf_last (by rfl) (by go_simp; rfl) (by go_simp; rfl) (by go_simp)
attribute [local go_sem] eqA_I
set_option maxHeartbeats 4000000 in
set_option maxRecDepth 100000 in
theorem eqI_same (A A' : Option Addr) (c c' : Nat) (xs : List S62) (w : World) (hC : k62.C w A xs.length xs) (hC' : k62.C w A' xs.length xs) (hn : xs.length ≤ 1000) :
    Calls Try.prog 59 #[.slice A xs.length c, .slice A' xs.length c'] w fun e w' => e = .returned (.bool true) ∧ Below w.heap.size w w' := by
  have HC := Lib.hid hC
  have HC' := Lib.hid hC'
  clear hC hC'
  go_enter Try.func59, Try.ntmps59
  go_wp2
  go_loopw [13] (fun v wr => ∃ i : Nat, i ≤ xs.length ∧ v = .int .i64 i ∧ Below w.heap.size w wr) (fun v _ => xs.length - (intOf v).toNat)
  case atStart => exact ⟨0, Nat.zero_le _, rfl, Below.refl _ _⟩
  case round =>
    obtain ⟨i, hi, rfl, hb⟩ := hrel
    obtain ⟨wo, rfl⟩ : ∃ wo, wo = wr := ⟨_, rfl⟩
    by_cases hlt : i < xs.length
    · obtain ⟨ax, hA, i0, i1, i2, i3, i4, i5⟩ := at_T62 (Kd.C_below HC.out hb) (i : Int) (by omega) (by omega)
      obtain ⟨ay, hA', j0, j1, j2, j3, j4, j5⟩ := at_T62 (Kd.C_below HC'.out hb) (i : Int) (by omega) (by omega)
      subst hA hA'
      obtain ⟨y, hy⟩ : ∃ y, y = rd_T62 xs (i : Int) := ⟨_, rfl⟩
      rw [← hy] at i0 i1 i2 i3 i4 i5 j0 j1 j2 j3 j4 j5
      rw [Int.toNat_natCast] at i0 i1 i2 i3 i4 i5 j0 j1 j2 j3 j4 j5
      have HB := Lib.hid hb
      clear hb hy
      go_wp2
      repeat (go_quiet (fail); try go_wp2)
      exact ⟨⟨i + 1, by omega, by go_num, pw_below_drewN HB.out _⟩, by simp [intOf]; omega⟩
    · have HB := Lib.hid hb
      clear hb
      go_wp2
      go_ret
      exact ⟨rfl, HB.out⟩
end Go.Proofs.Ythgodpmahdnnjaa
end
section
namespace Go.Proofs.Ythgodpmahdnnjaa
open Go.RowKit Go.Proofs.YthgodpmahdnnjaaW.PrintWords Go.Proofs.YthgodpmahdnnjaaW.PrintMore Go.Proofs.Ythgodpmahdnnjaa.H
set_option maxHeartbeats 4000000 in
set_option maxRecDepth 100000 in
theorem eqB_same (x : S43) (A A' : Option Addr) (c c' : Nat) (w : World) (hC : k62.C w A x.f0.length x.f0) (hC' : k62.C w A' x.f0.length x.f0) (hn : x.f0.length ≤ 1000) :
    Calls Try.prog 58 #[.agg #[.slice A x.f0.length c, .int .u8 x.f1, .int .i64 x.f2, .int .i64 x.f3, .int .i64 x.f4], .agg #[.slice A' x.f0.length c', .int .u8 x.f1, .int .i64 x.f2, .int .i64 x.f3, .int .i64 x.f4]] w fun e w' => e = .returned (.bool true) ∧ Below w.heap.size w w' := by
  have HC := Lib.hid hC
  have HC' := Lib.hid hC'
  clear hC hC'
  go_enter Try.func58, Try.ntmps58
  go_wp2_with (first
    | ((with_reducible refine gate_dst (N := 2) rfl ?_); refine box_event ?hg (N := 2) ?hd (cs := #[.slice A x.f0.length c, .int .u8 x.f1, .int .i64 x.f2, .int .i64 x.f3, .int .i64 x.f4]) (t := 43) ?hr ?_; (case hd => rfl); (case hg => rfl); (case hr => first | (go_simp; done) | (go_simp; rfl)); intro g1 hg1 w1 hbox1 hbw1; have HBW1 := Lib.hid hbw1; have BK1 := Lib.hid hbox1; clear hbox1 hbw1 hg1)
    | ((with_reducible refine gate_dst (N := 3) rfl ?_); refine box_event ?hg (N := 3) ?hd (cs := #[.slice A' x.f0.length c', .int .u8 x.f1, .int .i64 x.f2, .int .i64 x.f3, .int .i64 x.f4]) (t := 43) ?hr ?_; (case hd => rfl); (case hg => rfl); (case hr => first | (go_simp; done) | (go_simp; rfl)); intro g2 hg2 w2 hbox2 hbw2; have HBW2 := Lib.hid (HBW1.out.trans (hbw2.mono HBW1.out.size)); have BK2 := Lib.hid hbox2; have BK12 := Lib.hid (heap_below BK1.out hbw2); obtain ⟨y0, y1, y2, y3, y4⟩ := cells5 BK12.out; obtain ⟨z0, z1, z2, z3, z4⟩ := cells5 hbox2; clear hbox2 hbw2 hg2)
    | (go_at_call 59; refine (eqI_same A A' c c' x.f0 _ (Kd.C_below HC.out HBW2.out) (Kd.C_below HC'.out HBW2.out) hn).mono ?_; rintro e w3 ⟨rfl, hb3⟩; have HB3 := Lib.hid hb3; clear y0 y1 y2 y3 y4 z0 z1 z2 z3 z4; obtain ⟨y0, y1, y2, y3, y4⟩ := cells5 (heap_below BK12.out hb3); obtain ⟨z0, z1, z2, z3, z4⟩ := cells5 (heap_below BK2.out hb3); clear hb3)
    | fail)
  go_ret
  exact ⟨rfl, HBW2.out.trans (HB3.out.mono HBW2.out.size)⟩
set_option maxHeartbeats 4000000 in
set_option maxRecDepth 100000 in
theorem eqF_same (A A' : Option Addr) (c c' : Nat) (B : List S43) (w : World) (hC : k43.C w A B.length B) (hC' : k43.C w A' B.length B) (hn : B.length ≤ 1000) (hcode : ∀ x ∈ B, x.f0.length ≤ 1000) :
    Calls Try.prog 61 #[.slice A B.length c, .slice A' B.length c', .func (.func 58) #[] #[]] w fun e w' => e = .returned (.bool true) ∧ Below w.heap.size w w' := by
  have HC := Lib.hid hC
  have HC' := Lib.hid hC'
  have HCO := Lib.hid hcode
  clear hC hC' hcode
  go_enter Try.func61, Try.ntmps61
  go_wp2
  go_loopw [17] (fun v wr => ∃ i : Nat, i ≤ B.length ∧ v = .int .i64 i ∧ Below w.heap.size w wr) (fun v _ => B.length - (intOf v).toNat)
  case atStart => exact ⟨0, Nat.zero_le _, rfl, Below.refl _ _⟩
  case round =>
    obtain ⟨i, hi, rfl, hb⟩ := hrel
    obtain ⟨wo, rfl⟩ : ∃ wo, wo = wr := ⟨_, rfl⟩
    by_cases hlt : i < B.length
    · obtain ⟨ad, A0, c0, hA, q0, q1, q2, q3, q4, hl0, hC0⟩ := at_T43 (Kd.C_below HC.out hb) (i : Int) (by omega) (by omega)
      obtain ⟨bd, B0, d0, hB, r0, r1, r2, r3, r4, hm0, hD0⟩ := at_T43 (Kd.C_below HC'.out hb) (i : Int) (by omega) (by omega)
      subst hA hB
      rw [Int.toNat_natCast] at q0 q1 q2 q3 q4 r0 r1 r2 r3 r4
      have hmem := memB hlt
      have hrd : rd_T43 B (i : Int) = B.getD i z43 := by unfold rd_T43; rw [Int.toNat_natCast]
      rw [hrd] at q0 q1 q2 q3 q4 hC0 r0 r1 r2 r3 r4 hD0
      obtain ⟨x, hx⟩ : ∃ x, x = B.getD i z43 := ⟨_, rfl⟩
      rw [← hx] at q0 q1 q2 q3 q4 hC0 r0 r1 r2 r3 r4 hD0 hmem
      have q1' : wo.cell? ⟨(ad.add (i * 5)).block, (ad.add (i * 5)).off + 1, none⟩ = some (.int .u8 x.f1) := q1
      have q2' : wo.cell? ⟨(ad.add (i * 5)).block, (ad.add (i * 5)).off + 2, none⟩ = some (.int .i64 x.f2) := q2
      have q3' : wo.cell? ⟨(ad.add (i * 5)).block, (ad.add (i * 5)).off + 3, none⟩ = some (.int .i64 x.f3) := q3
      have q4' : wo.cell? ⟨(ad.add (i * 5)).block, (ad.add (i * 5)).off + 4, none⟩ = some (.int .i64 x.f4) := q4
      have r1' : wo.cell? ⟨(bd.add (i * 5)).block, (bd.add (i * 5)).off + 1, none⟩ = some (.int .u8 x.f1) := r1
      have r2' : wo.cell? ⟨(bd.add (i * 5)).block, (bd.add (i * 5)).off + 2, none⟩ = some (.int .i64 x.f2) := r2
      have r3' : wo.cell? ⟨(bd.add (i * 5)).block, (bd.add (i * 5)).off + 3, none⟩ = some (.int .i64 x.f3) := r3
      have r4' : wo.cell? ⟨(bd.add (i * 5)).block, (bd.add (i * 5)).off + 4, none⟩ = some (.int .i64 x.f4) := r4
      have hcl := HCO.out x hmem
      have HC0 := Lib.hid hC0
      have HD0 := Lib.hid hD0
      have HB := Lib.hid hb
      clear hb hC0 hD0 hrd hx hmem q1 q2 q3 q4 r1 r2 r3 r4 hl0 hm0
      have HR := Lib.hid (show wo.cell? (bd.add (i * 5)) = some (.slice B0 x.f0.length d0) ∧ wo.cell? ⟨(bd.add (i * 5)).block, (bd.add (i * 5)).off + 1, none⟩ = some (.int .u8 x.f1) ∧ wo.cell? ⟨(bd.add (i * 5)).block, (bd.add (i * 5)).off + 2, none⟩ = some (.int .i64 x.f2) ∧ wo.cell? ⟨(bd.add (i * 5)).block, (bd.add (i * 5)).off + 3, none⟩ = some (.int .i64 x.f3) ∧ wo.cell? ⟨(bd.add (i * 5)).block, (bd.add (i * 5)).off + 4, none⟩ = some (.int .i64 x.f4) from ⟨r0, r1', r2', r3', r4'⟩)
      go_upto_region 6 with (first
        | ((with_reducible refine gate_dst (N := 8) rfl ?_); refine box_event ?hg (N := 8) ?hd (cs := #[.slice none 0 0, .int .u8 0, .int .i64 0, .int .i64 0, .int .i64 0]) (t := 43) ?hr ?_; (case hd => rfl); (case hg => rfl); (case hr => first | (go_simp; done) | (go_simp; rfl)); intro g8 hg8 w8 hbox8 hbw8; obtain ⟨y0, y1, y2, y3, y4⟩ := cells5 hbox8; have f0 := blk_frozen hbox8 0; have f1 := blk_frozen hbox8 1; have f2 := blk_frozen hbox8 2; have f3 := blk_frozen hbox8 3; have f4 := blk_frozen hbox8 4; have BK8 := Lib.hid hbox8; have HBW8 := Lib.hid hbw8; have HG8 := Lib.hid hg8; clear hbox8 hbw8 hg8)
        | fail)
      have hl8 : wo.heap.size ≤ g8 := by rw [HG8.out]; exact Nat.le_refl _
      obtain ⟨v8, hv8⟩ : ∃ v8, v8 = (((((w8.setCell ⟨g8, 0, none⟩ (.slice A0 x.f0.length c0)).setCell ⟨g8, 1, none⟩ (.int .u8 x.f1)).setCell ⟨g8, 2, none⟩ (.int .i64 x.f2)).setCell ⟨g8, 3, none⟩ (.int .i64 x.f3)).setCell ⟨g8, 4, none⟩ (.int .i64 x.f4)) := ⟨_, rfl⟩
      have hb8 : Below wo.heap.size wo v8 := by
        rw [hv8]
        exact ((((HBW8.out.setCell (p := ⟨g8, 0, none⟩) hl8 _).setCell (p := ⟨g8, 1, none⟩) hl8 _).setCell (p := ⟨g8, 2, none⟩) hl8 _).setCell (p := ⟨g8, 3, none⟩) hl8 _).setCell (p := ⟨g8, 4, none⟩) hl8 _
      have hk8 : v8.heap[g8]? = some (.cells #[.slice A0 x.f0.length c0, .int .u8 x.f1, .int .i64 x.f2, .int .i64 x.f3, .int .i64 x.f4] 43 (0, 0)) := by rw [hv8]; exact blk_five BK8.out _ _ _ _ _
      rw [← hv8]
      have HK8 := Lib.hid hk8
      have HV8 := Lib.hid hb8
      clear hv8 hb8 hk8 hl8 y0 y1 y2 y3 y4 f0 f1 f2 f3 f4 BK8 HBW8 HG8
      have s0 := cell_up HR.out.1 HV8.out
      have s1 := cell_up HR.out.2.1 HV8.out
      have s2 := cell_up HR.out.2.2.1 HV8.out
      have s3 := cell_up HR.out.2.2.2.1 HV8.out
      have s4 := cell_up HR.out.2.2.2.2 HV8.out
      clear q0 q1' q2' q3' q4' r0 r1' r2' r3' r4'
      go_upto_region 7 with (first
        | ((with_reducible refine gate_dst (N := 9) rfl ?_); refine box_event ?hg (N := 9) ?hd (cs := #[.slice none 0 0, .int .u8 0, .int .i64 0, .int .i64 0, .int .i64 0]) (t := 43) ?hr ?_; (case hd => rfl); (case hg => rfl); (case hr => first | (go_simp; done) | (go_simp; rfl)); intro g9 hg9 w9 hbox9 hbw9; obtain ⟨y0, y1, y2, y3, y4⟩ := cells5 hbox9; have f0 := blk_frozen hbox9 0; have f1 := blk_frozen hbox9 1; have f2 := blk_frozen hbox9 2; have f3 := blk_frozen hbox9 3; have f4 := blk_frozen hbox9 4; have BK9 := Lib.hid hbox9; have HBW9 := Lib.hid hbw9; have HG9 := Lib.hid hg9; clear hbox9 hbw9 hg9)
        | fail)
      have hl9 : v8.heap.size ≤ g9 := by rw [HG9.out]; exact Nat.le_refl _
      obtain ⟨v9, hv9⟩ : ∃ v9, v9 = (((((w9.setCell ⟨g9, 0, none⟩ (.slice B0 x.f0.length d0)).setCell ⟨g9, 1, none⟩ (.int .u8 x.f1)).setCell ⟨g9, 2, none⟩ (.int .i64 x.f2)).setCell ⟨g9, 3, none⟩ (.int .i64 x.f3)).setCell ⟨g9, 4, none⟩ (.int .i64 x.f4)) := ⟨_, rfl⟩
      have hb9 : Below v8.heap.size v8 v9 := by
        rw [hv9]
        exact ((((HBW9.out.setCell (p := ⟨g9, 0, none⟩) hl9 _).setCell (p := ⟨g9, 1, none⟩) hl9 _).setCell (p := ⟨g9, 2, none⟩) hl9 _).setCell (p := ⟨g9, 3, none⟩) hl9 _).setCell (p := ⟨g9, 4, none⟩) hl9 _
      have hk9 : v9.heap[g9]? = some (.cells #[.slice B0 x.f0.length d0, .int .u8 x.f1, .int .i64 x.f2, .int .i64 x.f3, .int .i64 x.f4] 43 (0, 0)) := by rw [hv9]; exact blk_five BK9.out _ _ _ _ _
      rw [← hv9]
      have HK9 := Lib.hid hk9
      have HV9 := Lib.hid hb9
      clear hv9 hb9 hk9 hl9 y0 y1 y2 y3 y4 f0 f1 f2 f3 f4 BK9 HBW9 HG9
      clear s0 s1 s2 s3 s4
      have HK89 := Lib.hid (heap_below HK8.out HV9.out)
      have HV := Lib.hid (HV8.out.trans (HV9.out.mono HV8.out.size))
      obtain ⟨y0, y1, y2, y3, y4⟩ := cells5 HK89.out
      obtain ⟨z0, z1, z2, z3, z4⟩ := cells5 HK9.out
      have HCALL := Lib.hid (eqB_same x A0 B0 c0 d0 v9 (Kd.C_below HC0.out HV.out) (Kd.C_below HD0.out HV.out) hcl)
      go_wp2_with (first | (go_at_call 58; refine HCALL.out.mono ?_; rintro e w10 ⟨rfl, hb10⟩; have HB10 := Lib.hid hb10; clear hb10) | fail)
      go_roundw
      case rel => exact ⟨i + 1, by omega, by go_num, HB.out.trans ((HV.out.trans (HB10.out.mono HV.out.size)).mono HB.out.size)⟩
      case measure => simp [intOf]; omega
    · have HB := Lib.hid hb
      clear hb
      go_wp2
      go_ret
      exact ⟨rfl, HB.out⟩
end Go.Proofs.Ythgodpmahdnnjaa
end
section
namespace Go.Proofs.Ythgodpmahdnnjaa
open Go.RowKit Go.Proofs.YthgodpmahdnnjaaW.PrintWords Go.Proofs.YthgodpmahdnnjaaW.PrintMore Go.Proofs.Ythgodpmahdnnjaa.H
theorem arr_l0 (xs : List S107) (hn : xs.length ≤ 9223372036854775807) : ∀ (d i k : Nat), i + d = xs.length → d < k → api_Array.l0 k xs xs (xs.length : Int) (i : Int) = some true
  | 0, i, k, hi, hk => by
    obtain ⟨k, rfl⟩ := k_add hk
    rw [api_Array.l0, if_neg (by omega)]
  | d + 1, i, k, hi, hk => by
    obtain ⟨k, rfl⟩ := k_add (show 1 ≤ k by omega)
    rw [api_Array.l0, if_pos (by omega), if_pos (by omega), if_pos (by omega), if_pos (by omega), if_neg (by simp), show wrap64 ((i : Int) + 1) = ((i + 1 : Nat) : Int) by unfold wrap64; omega]
    exact arr_l0 xs hn d (i + 1) k (by omega) (by omega)
theorem arr_self (xs : List S107) (hn : xs.length ≤ 9223372036854775807) : api_Array.f (xs.length + 1) xs xs = some true := by
  unfold api_Array.f
  rw [if_pos rfl]
  exact arr_l0 xs hn xs.length 0 _ (by omega) (by omega)
set_option maxHeartbeats 4000000 in
set_option maxRecDepth 100000 in
theorem equal_same (nm : ByteArray) (R : Int) (A2 A2' : Option Addr) (c2 c2' : Nat) (ar : List S107) (A3 A3' : Option Addr) (c3 c3' : Nat) (B : List S43) (w : World) (hC2 : k107.C w A2 ar.length ar) (hc2 : ar.length ≤ c2) (hD2 : k107.C w A2' ar.length ar) (hd2 : ar.length ≤ c2')
    (hC3 : k43.C w A3 B.length B) (hD3 : k43.C w A3' B.length B) (hn : B.length ≤ 1000) (hcode : ∀ x ∈ B, x.f0.length ≤ 1000) :
    Calls Try.prog 34 #[.agg #[.string nm, .int .i64 R, .slice A2 ar.length c2, .slice A3 B.length c3], .agg #[.string nm, .int .i64 R, .slice A2' ar.length c2', .slice A3' B.length c3']] w fun e w' => e = .returned (.bool true) ∧ Below w.heap.size w w' := by
  have HC2 := Lib.hid hC2
  have HC3 := Lib.hid hC3
  have HD2 := Lib.hid hD2
  have HD3 := Lib.hid hD3
  have HCO := Lib.hid hcode
  have HAR := Lib.hid (arr_self ar hC2.2.1)
  clear hC2 hC3 hD2 hD3 hcode
  go_enter Try.func34, Try.ntmps34
  go_wp2_with (first
    | ((with_reducible refine gate_dst (N := 2) rfl ?_); refine box_event ?hg (N := 2) ?hd (cs := #[.string nm, .int .i64 R, .slice A2 ar.length c2, .slice A3 B.length c3]) (t := 25) ?hr ?_; (case hd => rfl); (case hg => rfl); (case hr => first | (go_simp; done) | (go_simp; rfl)); intro g1 hg1 w1 hbox1 hbw1; have HBW1 := Lib.hid hbw1; have BK1 := Lib.hid hbox1; clear hbox1 hbw1 hg1)
    | ((with_reducible refine gate_dst (N := 3) rfl ?_); refine box_event ?hg (N := 3) ?hd (cs := #[.string nm, .int .i64 R, .slice A2' ar.length c2', .slice A3' B.length c3']) (t := 25) ?hr ?_; (case hd => rfl); (case hg => rfl); (case hr => first | (go_simp; done) | (go_simp; rfl)); intro g2 hg2 w2 hbox2 hbw2; have HBW2 := Lib.hid (HBW1.out.trans (hbw2.mono HBW1.out.size)); have BK2 := Lib.hid hbox2; have BK12 := Lib.hid (heap_below BK1.out hbw2); obtain ⟨y0, y1, y2, y3⟩ := cells4 BK12.out; obtain ⟨z0, z1, z2, z3⟩ := cells4 hbox2; clear hbox2 hbw2 hg2)
    | (go_at_call 60; refine (api_Array.calls (ar.length + 1) A2 c2 ar A2' c2' ar true _ (Kd.C_below HC2.out HBW2.out) hc2 (Kd.C_below HD2.out HBW2.out) hd2 HAR.out).mono ?_; rintro e w3 ⟨rfl, hd3⟩; have hb3 := hd3.below; have HB3 := Lib.hid hb3; clear y0 y1 y2 y3 z0 z1 z2 z3 hd3; obtain ⟨y0, y1, y2, y3⟩ := cells4 (heap_below BK12.out hb3); obtain ⟨z0, z1, z2, z3⟩ := cells4 (heap_below BK2.out hb3); clear hb3)
    | (go_at_call 61; refine (eqF_same A3 A3' c3 c3' B _ (Kd.C_below (Kd.C_below HC3.out HBW2.out) HB3.out) (Kd.C_below (Kd.C_below HD3.out HBW2.out) HB3.out) hn HCO.out).mono ?_; rintro e w4 ⟨rfl, hb4⟩; have HB4 := Lib.hid hb4; clear hb4)
    | fail)
  go_ret
  exact ⟨rfl, HBW2.out.trans ((HB3.out.trans (HB4.out.mono HB3.out.size)).mono HBW2.out.size)⟩
set_option maxHeartbeats 4000000 in
set_option maxRecDepth 100000 in
theorem eqR_same (A A' : Option Addr) (c c' : Nat) (xs : List (List Int)) (w : World) (hC : (Kd.slice 3 (Kd.int .i64)).C w A xs.length xs) (hC' : (Kd.slice 3 (Kd.int .i64)).C w A' xs.length xs) (hn : xs.length ≤ 1000) (hx : ∀ l ∈ xs, l.length ≤ 1000) :
    Calls Try.prog 33 #[.slice A xs.length c, .slice A' xs.length c', .func (.func 14) #[] #[]] w fun e w' => e = .returned (.bool true) ∧ Below w.heap.size w w' := by
  have HC := Lib.hid hC
  have HC' := Lib.hid hC'
  have HX := Lib.hid hx
  clear hC hC' hx
  go_enter Try.func33, Try.ntmps33
  go_wp2
  go_loopw [17] (fun v wr => ∃ i : Nat, i ≤ xs.length ∧ v = .int .i64 i ∧ Below w.heap.size w wr) (fun v _ => xs.length - (intOf v).toNat)
  case atStart => exact ⟨0, Nat.zero_le _, rfl, Below.refl _ _⟩
  case round =>
    obtain ⟨i, hi, rfl, hb⟩ := hrel
    obtain ⟨wo, rfl⟩ : ∃ wo, wo = wr := ⟨_, rfl⟩
    by_cases hlt : i < xs.length
    · obtain ⟨ad, L, d, hA, q, hd, hC0⟩ := at_rows (Kd.C_below HC.out hb) (i : Int) (by omega) (by omega)
      obtain ⟨ad', L', d', hA', q', hd', hC0'⟩ := at_rows (Kd.C_below HC'.out hb) (i : Int) (by omega) (by omega)
      subst hA hA'
      rw [Int.toNat_natCast] at q hd hC0 q' hd' hC0'
      have hl := HX.out (xs.getD i []) (by rw [List.getD_eq_getElem?_getD, List.getElem?_eq_getElem hlt]; exact List.getElem_mem hlt)
      obtain ⟨l, hle⟩ : ∃ l, l = xs.getD i [] := ⟨_, rfl⟩
      rw [← hle] at q hd hC0 q' hd' hC0' hl
      have HCALL := Lib.hid (lsEq (W := wo) l hl hC0 hd hC0' hd')
      have HB := Lib.hid hb
      clear hb hC0 hC0' hle
      go_wp2_with (first | (go_at_call 14; refine HCALL.out.mono ?_; rintro e w10 ⟨rfl, hb10⟩; have HB10 := Lib.hid hb10; clear hb10) | fail)
      go_roundw
      case rel => exact ⟨i + 1, by omega, by go_num, HB.out.trans (HB10.out.mono HB.out.size)⟩
      case measure => simp [intOf]; omega
    · have HB := Lib.hid hb
      clear hb
      go_wp2
      go_ret
      exact ⟨rfl, HB.out⟩
theorem same_calls (A A' : Option Addr) (c c' : Nat) (xs : List (List Int)) (w : World) (hC : (Kd.slice 3 (Kd.int .i64)).C w A xs.length xs) (hC' : (Kd.slice 3 (Kd.int .i64)).C w A' xs.length xs) (hn : xs.length ≤ 1000) (hx : ∀ l ∈ xs, l.length ≤ 1000) :
    Calls Try.prog 32 #[.slice A xs.length c, .slice A' xs.length c'] w fun e w' => e = .returned (.bool true) ∧ Below w.heap.size w w' := by
  have HCALL := Lib.hid (eqR_same A A' c c' xs w hC hC' hn hx)
  clear hC hC' hx
  go_enter Try.func32, Try.ntmps32
  go_wp2_with (first | (go_at_call 33; refine HCALL.out.mono ?_; rintro e w10 ⟨rfl, hb10⟩; have HB10 := Lib.hid hb10; clear hb10) | fail)
  go_ret
  exact ⟨rfl, HB10.out⟩
end Go.Proofs.Ythgodpmahdnnjaa
end
section
namespace Go.Proofs.Ythgodpmahdnnjaa
open Go.RowKit Go.Proofs.YthgodpmahdnnjaaW.PrintWords Go.Proofs.YthgodpmahdnnjaaW.PrintMore Go.Proofs.Ythgodpmahdnnjaa.H
def bcell (V : Nat → Value) (B : List S43) (q : Nat) : Value :=
  if q % 5 = 0 then V (q / 5) else if q % 5 = 1 then .int .u8 (B.getD (q / 5) z43).f1 else if q % 5 = 2 then .int .i64 (B.getD (q / 5) z43).f2
  else if q % 5 = 3 then .int .i64 (B.getD (q / 5) z43).f3 else .int .i64 (B.getD (q / 5) z43).f4
def bcells (V : Nat → Value) (B : List S43) : List Value := (List.range (B.length * 5)).map (bcell V B)
theorem bcells_length (V : Nat → Value) (B : List S43) : (bcells V B).length = B.length * 5 := by simp [bcells]
theorem bcells_get {V : Nat → Value} {B : List S43} {q : Nat} (h : q < B.length * 5) : (bcells V B)[q]? = some (bcell V B q) := by simp [bcells, h]
theorem bcells_set (V : Nat → Value) (B : List S43) (j : Nat) (u : Value) : (bcells V B).set (j * 5) u = bcells (fun i => if i = j then u else V i) B := by
  apply List.ext_getElem?
  intro q
  by_cases h : q < B.length * 5
  · rw [List.getElem?_set, bcells_get h, bcells_get h, bcells_length]
    by_cases e : j * 5 = q
    · subst e
      rw [if_pos rfl, if_pos h]
      unfold bcell
      rw [if_pos (by omega)]
      dsimp only
      rw [if_pos (by omega)]
    · rw [if_neg e]
      unfold bcell
      by_cases h0 : q % 5 = 0
      · rw [if_pos h0, if_pos h0]
        dsimp only
        rw [if_neg (by omega)]
      · rw [if_neg h0, if_neg h0]
  · rw [List.getElem?_eq_none (by rw [List.length_set, bcells_length]; omega), List.getElem?_eq_none (by rw [bcells_length]; omega)]
theorem bcell0 (V : Nat → Value) (B : List S43) (j : Nat) : bcell V B (j * 5) = V j := by
  unfold bcell
  rw [if_pos (by omega), show j * 5 / 5 = j by omega]
theorem bcell_eq (V : Nat → Value) (B : List S43) (j i : Nat) (hi : i < 5) : bcell V B (j * 5 + i) = ([V j, .int .u8 (B.getD j z43).f1, .int .i64 (B.getD j z43).f2, .int .i64 (B.getD j z43).f3, .int .i64 (B.getD j z43).f4] : List Value).getD i undef := by
  have hd : (j * 5 + i) / 5 = j := by omega
  have hm : (j * 5 + i) % 5 = i := by omega
  unfold bcell
  rw [hd, hm]
  have : i = 0 ∨ i = 1 ∨ i = 2 ∨ i = 3 ∨ i = 4 := by omega
  rcases this with rfl | rfl | rfl | rfl | rfl <;> rfl
def raw5 : List Value → List Value → Prop := fun x cs => cs = x ∧ cs.length = 5 ∧ ∀ u ∈ cs, u.oneCell' = true
theorem rows_of {w : World} {A : Option Addr} {B : List S43} (h : k43.C w A B.length B) :
    ∃ U : Nat → Value, (∀ j, j < B.length → ∃ A0 c0, U j = .slice A0 (B.getD j z43).f0.length c0 ∧ (B.getD j z43).f0.length ≤ c0 ∧ k62.C w A0 (B.getD j z43).f0.length (B.getD j z43).f0) ∧
      ReadsRow raw5 5 w A B.length ((List.range B.length).map fun j => [U j, .int .u8 (B.getD j z43).f1, .int .i64 (B.getD j z43).f2, .int .i64 (B.getD j z43).f3, .int .i64 (B.getD j z43).f4]) := by
  have hall : ∀ j, j < B.length → ∃ u : Value, (∃ A0 c0, u = .slice A0 (B.getD j z43).f0.length c0 ∧ (B.getD j z43).f0.length ≤ c0 ∧ k62.C w A0 (B.getD j z43).f0.length (B.getD j z43).f0) ∧
      ∃ ad, A = some ad ∧ ∀ i u', ([u, .int .u8 (B.getD j z43).f1, .int .i64 (B.getD j z43).f2, .int .i64 (B.getD j z43).f3, .int .i64 (B.getD j z43).f4] : List Value)[i]? = some u' → w.cell? (ad.add (j * 5 + i)) = some u' := by
    intro j hj
    obtain ⟨ad, hA, hc⟩ := h.2.2 (by omega)
    obtain ⟨c, hcl, hK, hcc⟩ := hc j (B.getD j z43) (by rw [List.getD_eq_getElem?_getD, List.getElem?_eq_getElem hj]; rfl)
    obtain ⟨A0, c0, rfl, l0, g0⟩ := k43_open hK
    exact ⟨_, ⟨A0, c0, rfl, l0, g0⟩, ad, hA, hcc⟩
  obtain ⟨U, hU⟩ := Classical.axiomOfChoice (fun j => (if h : j < B.length then ⟨(hall j h).choose, fun _ => (hall j h).choose_spec⟩ else ⟨undef, fun h' => absurd h' h⟩ : ∃ u : Value, j < B.length → (∃ A0 c0, u = .slice A0 (B.getD j z43).f0.length c0 ∧ (B.getD j z43).f0.length ≤ c0 ∧ k62.C w A0 (B.getD j z43).f0.length (B.getD j z43).f0) ∧
      ∃ ad, A = some ad ∧ ∀ i u', ([u, .int .u8 (B.getD j z43).f1, .int .i64 (B.getD j z43).f2, .int .i64 (B.getD j z43).f3, .int .i64 (B.getD j z43).f4] : List Value)[i]? = some u' → w.cell? (ad.add (j * 5 + i)) = some u'))
  refine ⟨U, fun j hj => (hU j hj).1, by simp, h.2.1, fun hp => ?_⟩
  obtain ⟨ad, hA, _⟩ := h.2.2 hp
  refine ⟨ad, hA, fun j p hp => ?_⟩
  have hj : j < B.length := by
    have := (List.getElem?_eq_some_iff.1 hp).1
    simpa using this
  have hpe : p = [U j, .int .u8 (B.getD j z43).f1, .int .i64 (B.getD j z43).f2, .int .i64 (B.getD j z43).f3, .int .i64 (B.getD j z43).f4] := by simp [hj] at hp; rw [← hp]; simp [List.getD_eq_getElem?_getD, hj]
  subst hpe
  obtain ⟨⟨A0, c0, hu, _⟩, ad', hA', hcc⟩ := hU j hj
  rw [hA] at hA'
  injection hA' with hA'
  subst hA'
  refine ⟨_, rfl, ⟨rfl, rfl, fun u hu' => ?_⟩, hcc⟩
  simp only [List.mem_cons, List.not_mem_nil, or_false] at hu'
  rcases hu' with rfl | rfl | rfl | rfl | rfl
  · rw [hu]; rfl
  all_goals rfl
theorem raw_own {W : World} {base : Nat} {ok : Nat → Prop} {v : Value} {U : Nat → Value} {B : List S43} (h : (Kd.raw 5).R 43 W base ok v ((List.range B.length).map fun j => [U j, .int .u8 (B.getD j z43).f1, .int .i64 (B.getD j z43).f2, .int .i64 (B.getD j z43).f3, .int .i64 (B.getD j z43).f4])) :
    W.ownsRow base 43 5 v B.length (bcells U B) := by
  obtain ⟨_, inner, ho, hr⟩ := h
  rw [List.length_map, List.length_range] at ho
  have hlen : inner.length = B.length * 5 := ho.1
  have he : inner = bcells U B := by
    apply List.ext_getElem?
    intro q
    by_cases hq : q < B.length * 5
    · have hj : q / 5 < B.length := by omega
      have h1 := (hr.2 (q / 5) _ (by rw [List.getElem?_map, List.getElem?_range hj]; rfl)).1
      have h2 : ((inner.drop (q / 5 * 5)).take 5)[q % 5]? = inner[q]? := by
        rw [List.getElem?_take, if_pos (by omega), List.getElem?_drop, show q / 5 * 5 + q % 5 = q by omega]
      rw [← h2]
      have h3 : ((inner.drop (q / 5 * (Kd.raw 5).sz)).take (Kd.raw 5).sz)[q % 5]? = ((inner.drop (q / 5 * 5)).take 5)[q % 5]? := rfl
      rw [← h3, h1, bcells_get hq]
      have h4 := bcell_eq U B (q / 5) (q % 5) (by omega)
      rw [show q / 5 * 5 + q % 5 = q by omega] at h4
      rw [h4, List.getD_eq_getElem?_getD, List.getElem?_eq_getElem (by simp; omega)]
      rfl
    · rw [List.getElem?_eq_none (by omega), List.getElem?_eq_none (by rw [bcells_length]; omega)]
  rw [← he]
  exact ho
structure BlkTo (k : Nat) (W : World) (base : Nat) (v : Value) (V U : Nat → Value) (B : List S43) : Prop where
  own : W.ownsRow base 43 5 v B.length (bcells V B)
  row : ∀ j, j < k → k62.R 62 W base (fun b => some b = (V j).ownBlock) (V j) (B.getD j z43).f0
  sep : ∀ i j, i < k → j < k → i ≠ j → ∀ b, (V i).ownBlock = some b → (V j).ownBlock ≠ some b
  old : ∀ j, k ≤ j → V j = U j
variable {W W1 : World} {base k : Nat} {v : Value} {V U : Nat → Value} {B : List S43}
theorem BlkTo.row_block (h : BlkTo k W base v V U B) {j b : Nat} (hj : j < k) (hb : (V j).ownBlock = some b) : base ≤ b ∧ b < W.heap.size ∧ some b ≠ v.ownBlock := by
  have hr := h.row j hj
  refine ⟨Kd.R_base hr b hb, Kd.R_lt hr b hb, fun e => ?_⟩
  obtain ⟨cells, hc⟩ := Kd.R_typed hr b hb
  rcases h.own.2 with ⟨h1, _⟩ | ⟨g, cap, cur, h1, _, hg, _⟩
  · rw [h1] at e; cases e
  · rw [h1] at e
    have : b = g := by simpa [Value.ownBlock] using e
    subst this
    rw [hc] at hg
    injection hg with hg
    injection hg with _ hg
    exact absurd hg (by decide)
theorem BlkTo.kept (h : BlkTo k W base v V U B) {S : Nat → Prop} (hk : Kept W W1 S) (hS : ∀ b, S b → b < base ∨ W.heap.size ≤ b) : BlkTo k W1 base v V U B := by
  refine ⟨own_move h.own fun b hb => ?_, fun j hj => Kd.R_step (h.row j hj) fun b hb hlt => ?_, h.sep, h.old⟩
  · have := h.own.lt b hb
    exact hk.2 b this.2 fun hs => by have := hS b hs; omega
  · have := h.row_block hj hb.symm
    exact hk.2 b hlt fun hs => by have := hS b hs; omega
theorem BlkTo.below (h : BlkTo k W base v V U B) (hb : Below W.heap.size W W1) : BlkTo k W1 base v V U B := h.kept (S := fun _ => False) (Kept.of_below hb _) (fun _ h => h.elim)
theorem BlkTo.set (h : BlkTo k W base v V U B) {g t : Nat} {cells : Array Value} (hb : W.heap[g]? = some (.cells cells t (0, 0))) (h1 : 43 ≠ t) (h2 : 62 ≠ t) (j : Nat) (u : Value) : BlkTo k (W.setCell ⟨g, j, none⟩ u) base v V U B := by
  refine ⟨own_move h.own fun b hbv => Below.heap_setCell W ⟨g, j, none⟩ u b fun e => ?_, fun i hi => Kd.R_set (h.row i hi) hb (fun q hq => ?_) j u, h.sep, h.old⟩
  · rw [show b = g from e] at hbv
    rcases h.own.2 with ⟨h3, _⟩ | ⟨g', cap, cur, h3, _, hg, _⟩
    · rw [h3] at hbv; cases hbv
    · rw [h3] at hbv
      have e2 : g' = g := by simpa [Value.ownBlock] using hbv
      rw [e2, hb] at hg
      injection hg with hg
      injection hg with _ hg
      exact h1 hg.symm
  · rcases List.mem_cons.1 hq with rfl | hq
    · exact h2
    · cases hq
theorem BlkTo.next {g cap h : Nat} {u : Value} (hB : BlkTo k W base (.slice (some ⟨g, 0, none⟩) B.length cap) V U B) (hkn : k < B.length) (hWb : Below W.heap.size W W1) (hgb : base ≤ g) (hbh : base ≤ h) (hh : W.heap.size ≤ h)
    (hR : k62.R 62 W1 h (fun _ => True) u (B.getD k z43).f0) :
    BlkTo (k + 1) (W1.setCell ⟨g, k * 5, none⟩ u) base (.slice (some ⟨g, 0, none⟩) B.length cap) (fun i => if i = k then u else V i) U B := by
  have h1 := hB.below hWb
  have hg : ∃ cells, W1.heap[g]? = some (.cells cells 43 (0, 0)) := by
    rcases h1.own.2 with ⟨h2, _⟩ | ⟨g', cap', cur, h2, _, hg', _⟩
    · cases h2
    · injection h2 with h2 _ _
      injection h2 with h2
      injection h2 with h2
      subst h2
      exact ⟨cur, hg'⟩
  obtain ⟨cells, hg⟩ := hg
  have hty : ∀ q, q ∈ 62 :: k62.E → q ≠ 43 := by decide
  have hsep : ∀ i, i < k → ∀ b, (V i).ownBlock = some b → u.ownBlock ≠ some b := by
    intro i hi b hb hu
    have h2 := hB.row_block hi hb
    have h3 := Kd.R_base hR b hu
    omega
  refine ⟨?_, fun j hj => ?_, fun i j hi hj hne b hb => ?_, fun j hj => ?_⟩
  · rw [← bcells_set]
    exact (h1.own.stored (k * 5) u).1
  · by_cases e : j = k
    · subst e
      rw [if_pos rfl]
      exact Kd.R_tight rfl (Kd.R_set (Kd.R_lower hR hbh) hg hty _ _)
    · rw [if_neg e]
      exact Kd.R_set (h1.row j (by omega)) hg hty _ _
  · revert hb
    show (if i = k then u else V i).ownBlock = some b → (if j = k then u else V j).ownBlock ≠ some b
    intro hb
    by_cases ei : i = k
    · rw [if_pos ei] at hb
      rw [if_neg (by omega)]
      exact fun h2 => hsep j (by omega) b h2 hb
    · rw [if_neg ei] at hb
      by_cases ej : j = k
      · rw [if_pos ej]
        exact hsep i (by omega) b hb
      · rw [if_neg ej]
        exact hB.sep i j (by omega) (by omega) hne b hb
  · rw [if_neg (by omega)]
    exact hB.old j (by omega)
structure Blk (W : World) (base : Nat) (v : Value) (V : Nat → Value) (B : List S43) : Prop where
  own : W.ownsRow base 43 5 v B.length (bcells V B)
  row : ∀ j, j < B.length → k62.R 62 W base (fun b => some b = (V j).ownBlock) (V j) (B.getD j z43).f0
  sep : ∀ i j, i < B.length → j < B.length → i ≠ j → ∀ b, (V i).ownBlock = some b → (V j).ownBlock ≠ some b
theorem Blk.to (h : Blk W base v V B) : BlkTo B.length W base v V V B := ⟨h.own, h.row, h.sep, fun _ _ => rfl⟩
theorem BlkTo.all (h : BlkTo B.length W base v V U B) : Blk W base v V B := ⟨h.own, h.row, h.sep⟩
theorem Blk.kept (h : Blk W base v V B) {S : Nat → Prop} (hk : Kept W W1 S) (hS : ∀ b, S b → b < base ∨ W.heap.size ≤ b) : Blk W1 base v V B := (h.to.kept hk hS).all
theorem Blk.below (h : Blk W base v V B) (hb : Below W.heap.size W W1) : Blk W1 base v V B := (h.to.below hb).all
theorem Blk.C (h : Blk W base v V B) : ∃ A c, v = .slice A B.length c ∧ B.length ≤ c ∧ k43.C W A B.length B := by
  rcases h.own.2 with ⟨rfl, h0⟩ | ⟨g, cap, cur, rfl, hb, hg, hn, hm, hc, ht⟩
  · exact ⟨none, 0, by rw [h0], by omega, rfl, by omega, fun hp => by omega⟩
  · refine ⟨some ⟨g, 0, none⟩, cap, rfl, hn, rfl, by simp [maxLen] at hm; omega, fun hp => ⟨_, rfl, fun j p hj => ?_⟩⟩
    have hjn : j < B.length := (List.getElem?_eq_some_iff.1 hj).1
    have hpe : p = B.getD j z43 := by rw [List.getD_eq_getElem?_getD, hj]; rfl
    subst hpe
    obtain ⟨A0, c0, hv, hl, hC⟩ := Kd.R_reads (h.row j hjn)
    refine ⟨[.slice A0 (B.getD j z43).f0.length c0, .int .u8 (B.getD j z43).f1, .int .i64 (B.getD j z43).f2, .int .i64 (B.getD j z43).f3, .int .i64 (B.getD j z43).f4], rfl, k43_mk W _ hl hC, fun i u hu => ?_⟩
    have hi : i < 5 := (List.getElem?_eq_some_iff.1 hu).1
    rw [add_plain]
    refine (h.own.cellAt (j * 5 + i) (by omega)).trans ?_
    rw [bcells_get (by omega), bcell_eq V B j i hi, hv, List.getD_eq_getElem?_getD, hu]
    rfl
end Go.Proofs.Ythgodpmahdnnjaa
end
section
namespace Go.Proofs.Ythgodpmahdnnjaa
open Go.RowKit Go.Proofs.YthgodpmahdnnjaaW.PrintWords Go.Proofs.YthgodpmahdnnjaaW.PrintMore Go.Proofs.Ythgodpmahdnnjaa.H
theorem step_irows {ops : Array Oper} {o : Oper} {a : Act} {K : Act → World → Prop} {Q : Exit → Act → World → Prop} {E : Prop} {w8 : World} (h : Nat) (hgd : o.guard = none) (s y : Operand)
    (ho : o.op = .call { callee := .builtin .append, args := #[s, y], argTypes := #[41, 41] }) (hs : a.eval s = .slice (some ⟨h, 0, none⟩) 0 0) (A : Option Addr) (m c : Nat) (hx : a.eval y = .slice A m c)
    (hemp : w8.heap[h]? = some (.cells #[] 62 (0, 0))) (ys : List S62) (hC : k62.C w8 A m ys) (hm : m ≤ 1000)
    (hk : ∀ A1 c1 w', k62.R 62 w' h (fun _ => True) (.slice A1 m c1) ys → w8.grownBy w' (some h) → K (a.put o.dst (.slice A1 m c1)) w') :
    if Region.wanted o (yielded ops a.tmps) = true then Oper.wp Try.prog o a w8 K Q else E := by
  have hw : Region.wanted o (yielded ops a.tmps) = true := by simp [Region.wanted, hgd]
  have hlt := heap_lt hemp
  have HO : k62.R 62 w8 h (fun _ => True) (.slice (some ⟨h, 0, none⟩) 0 0) [] := ⟨fun _ _ => trivial, [], ⟨rfl, .inr ⟨h, 0, #[], rfl, Nat.le_refl _, hemp, Nat.le_refl _, by simp [maxLen], rfl, rfl⟩⟩, rfl, fun j p hp => by simp at hp⟩
  have hI : (Try.prog.info? 62).map (fun i => (i.zero, i.size, i.bytes)) = some (some (.agg #[.int .u8 0, .int .i64 0, .int .i64 0, .int .i64 0, .int .i64 0, .string ⟨#[]⟩]), 6, 56) := by kernel_rfl
  have := Kd.R_append_rows_step (P := Try.prog) (ops := ops) (o := o) (a := a) (Q := Q) (Kc := K) k62 (Rr := k62.K w8) (w0 := w8) h hw s y 41 62 _ 56 ho Try.underlying41 hI rfl (by decide) (by decide) _ [] ys A m c (fun _ => True) (fun _ => False) hs hx HO hC
    (fun x cs hx => by obtain rfl := k62_open hx; exact k62_mkM _ _ _ _) (fun _ hk => hk.elim) (fun _ _ => trivial) (Below.refl _ _) (Nat.le_of_lt hlt) (by simp; omega)
    (fun v1 w1 hR hB hg hat => by
      have hl : ys.length = m := hC.1
      rw [List.nil_append] at hR
      obtain ⟨A1, c1, rfl⟩ := Kd.R_slice hR
      rw [hl] at hR ⊢
      exact hk A1 c1 w1 hR hg)
  rw [if_pos hw] at this ⊢
  exact this
set_option maxHeartbeats 8000000 in
set_option maxRecDepth 100000 in
theorem copied_calls (nm : ByteArray) (R : Int) (A2 : Option Addr) (n2 c2 : Nat) (A3 : Option Addr) (c3 : Nat) (B : List S43) (w : World) (hC3 : k43.C w A3 B.length B) (hn : B.length ≤ 1000) (hcode : ∀ x ∈ B, x.f0.length ≤ 1000) :
    Calls Try.prog 28 #[.agg #[.string nm, .int .i64 R, .slice A2 n2 c2, .slice A3 B.length c3]] w
      fun e w' => ∃ v V, e = .returned (.agg #[.string nm, .int .i64 R, .slice A2 n2 c2, v]) ∧ Blk w' w.heap.size v V B ∧ Below w.heap.size w w' := by
  obtain ⟨U, hU, hrows⟩ := rows_of hC3
  have HU := Lib.hid hU
  have HROWS := Lib.hid hrows
  have HCO := Lib.hid hcode
  have HI := Lib.hid (show (Try.prog.info? 43).map (fun i => (i.zero, i.size, i.bytes)) = some (some (.agg #[.slice none 0 0, .int .u8 0, .int .i64 0, .int .i64 0, .int .i64 0]), 5, 56) by kernel_rfl)
  clear hU hrows hcode hC3
  go_enter Try.func28, Try.ntmps28
  go_upto_region 1 with (first
    | ((with_reducible refine gate_dst (N := 1) rfl ?_); refine box_event ?hg (N := 1) ?hd (cs := #[.string nm, .int .i64 R, .slice A2 n2 c2, .slice A3 B.length c3]) (t := 25) ?hr ?_; (case hd => rfl); (case hg => rfl); (case hr => first | (go_simp; done) | (go_simp; rfl)); intro g1 hg1 w1 hbox1 hbw1; have HBW1 := Lib.hid hbw1; have BK1 := Lib.hid hbox1; have HG1 := Lib.hid hg1; clear hbox1 hbw1 hg1)
    | ((with_reducible refine gate_dst (N := 2) rfl ?_); refine box_event ?hg (N := 2) ?hd (cs := #[.string ⟨#[]⟩, .int .i64 0, .slice none 0 0, .slice none 0 0]) (t := 25) ?hr ?_; (case hd => rfl); (case hg => rfl); (case hr => first | (go_simp; done) | (go_simp; rfl)); intro g2 hg2 w2 hbox2 hbw2; have HBW2 := Lib.hid hbw2; have BK2 := Lib.hid hbox2; have HG2 := Lib.hid hg2; clear hbox2 hbw2 hg2)
    | fail)
  have hg1l : g1 < w2.heap.size := Nat.lt_of_lt_of_le (heap_lt BK1.out) HBW2.out.size
  have hw2 : w.heap.size ≤ w2.heap.size := Nat.le_trans HBW1.out.size HBW2.out.size
  have h12 : g1 ≠ g2 := by have h1 := heap_lt BK1.out; have h2 := HG2.out; omega
  have HB2 := Lib.hid (HBW1.out.trans (HBW2.out.mono HBW1.out.size))
  have hk1 := heap_below BK1.out HBW2.out
  obtain ⟨z0, z1, z2, z3⟩ := cells4 hk1
  have z3a := cell_up z3 ((Below.refl w2.heap.size w2).alloc (Nat.le_refl _) (.cells #[] 43))
  have HK1A := Lib.hid (heap_below hk1 ((Below.refl w2.heap.size w2).alloc (Nat.le_refl _) (.cells #[] 43)))
  have HK2A := Lib.hid (heap_below BK2.out ((Below.refl w2.heap.size w2).alloc (Nat.le_refl _) (.cells #[] 43)))
  have HBA := Lib.hid (HB2.out.alloc HB2.out.size (.cells #[] 43))
  have HO := Lib.hid (show (Kd.raw 5).R 43 (w2.alloc (.cells #[] 43)) w.heap.size (fun _ => True) (.slice (some ⟨w2.heap.size, 0, none⟩) 0 0) [] from ⟨fun _ _ => trivial, [], ⟨rfl, .inr ⟨w2.heap.size, 0, #[], rfl, hw2, World.alloc_heap_new w2 _, Nat.le_refl _, by simp [maxLen], rfl, rfl⟩⟩, rfl, fun j p hp => by simp at hp⟩)
  have hRA : ReadsRow raw5 5 (w2.alloc (.cells #[] 43)) A3 B.length ((List.range B.length).map fun j => [U j, .int .u8 (B.getD j z43).f1, .int .i64 (B.getD j z43).f2, .int .i64 (B.getD j z43).f3, .int .i64 (B.getD j z43).f4]) := by
    refine ⟨HROWS.out.1, HROWS.out.2.1, fun hp => ?_⟩
    obtain ⟨ad, e, hc⟩ := HROWS.out.2.2 hp
    refine ⟨ad, e, fun j p hj => ?_⟩
    obtain ⟨c, h1, h2, h3⟩ := hc j p hj
    exact ⟨c, h1, h2, fun i u hu => cell_up (h3 i u hu) HBA.out⟩
  have HRA := Lib.hid hRA
  have hll : ([] : List (List Value)).length = 0 := rfl
  clear hRA z0 z1 z2 hk1 hll
  go_upto_region 2 with (first
    | (at_builtin; refine Kd.R_append_rows (Kd.raw 5) (Rr := raw5) (w0 := w) w.heap.size rfl _ _ 23 43 _ 56 rfl Try.underlying23 HI.out rfl (by decide) (by decide) _ [] _ A3 B.length c3 (fun _ => True) (fun _ => False) rfl rfl HO.out HRA.out (fun _ _ hx => hx) (fun _ hk => hk.elim) (fun _ _ => trivial) HBA.out HBA.out.size (by rw [List.length_nil]; omega) ?_; intro v3 w3 hR3 hb3 hg3 _; rw [List.nil_append] at hR3; have hown3 := raw_own hR3; obtain ⟨A, c, rfl⟩ := own_slice hown3; have hne : some g1 ≠ (Value.slice (some ⟨w2.heap.size, 0, none⟩) 0 0).ownBlock := (fun e => by (have e' : g1 = w2.heap.size := by simpa [Value.ownBlock] using e); omega); have k1 := (hg3.block g1 (heap_lt HK1A.out) hne).trans HK1A.out; have n3 := (blk_cell k1 3).trans rfl; have fr3 := blk_frozen k1 3; have HOWN3 := Lib.hid hown3; have HB3 := Lib.hid hb3; have HG3 := Lib.hid hg3; have HK13 := Lib.hid k1; clear hown3 hR3 hb3 hg3 k1 hne)
    | fail)
  obtain ⟨w4, hw4⟩ : ∃ w4, w4 = w3.setCell ⟨g1, 3, none⟩ (.slice A B.length c) := ⟨_, rfl⟩
  rw [← hw4]
  have hb4 : Below w.heap.size w w4 := by rw [hw4]; exact HB3.out.setCell (p := ⟨g1, 3, none⟩) (by rw [HG1.out]; exact Nat.le_refl _) _
  have hk14 : w4.heap[g1]? = some (.cells #[.string nm, .int .i64 R, .slice A2 n2 c2, .slice A B.length c] 25 (0, 0)) := by rw [hw4]; exact blk_put HK13.out 3 _ rfl
  have hne2 : some g2 ≠ (Value.slice (some ⟨w2.heap.size, 0, none⟩) 0 0).ownBlock := fun e => by
    have e' : g2 = w2.heap.size := by simpa [Value.ownBlock] using e
    have := heap_lt BK2.out
    omega
  have hk24 : w4.heap[g2]? = some (.cells #[.string ⟨#[]⟩, .int .i64 0, .slice none 0 0, .slice none 0 0] 25 (0, 0)) := by
    rw [hw4]
    exact (Below.heap_setCell w3 ⟨g1, 3, none⟩ _ g2 (Ne.symm h12)).trans ((HG3.out.block g2 (heap_lt HK2A.out) hne2).trans HK2A.out)
  have hown4 : w4.ownsRow w.heap.size 43 5 (.slice A B.length c) B.length (bcells U B) := by
    refine own_move HOWN3.out fun b hb => ?_
    rw [hw4]
    refine Below.heap_setCell w3 ⟨g1, 3, none⟩ _ b fun e => ?_
    have hn := own_base HOWN3.out b hb
    rw [show b = g1 from e] at hb
    rcases HOWN3.out.2 with ⟨h1, _⟩ | ⟨g, cap, cur, h1, _, hg, _⟩
    · rw [h1] at hb; cases hb
    · rw [h1] at hb
      have e2 : g = g1 := by simpa [Value.ownBlock] using hb
      rw [e2, HK13.out] at hg
      injection hg with hg
      injection hg with _ hg
      exact absurd hg (by decide)
  have HT := Lib.hid (show BlkTo 0 w4 w.heap.size (.slice A B.length c) U U B from ⟨hown4, fun j hj => absurd hj (Nat.not_lt_zero _), fun i j hi => absurd hi (Nat.not_lt_zero _), fun _ _ => rfl⟩)
  have HB4 := Lib.hid hb4
  have HK14 := Lib.hid hk14
  have HK24 := Lib.hid hk24
  obtain ⟨z0, z1, z2, z3⟩ := cells4 hk14
  clear hw4 hb4 hk14 hne2 hk24 hown4 z3a n3 fr3 HOWN3 HG3 HK13 HB3 HK1A HK2A HBA HO HRA BK1 BK2 HBW2 HB2 h12
  go_wp2
  go_loopw [12] (fun v wr => ∃ (k : Nat) (V : Nat → Value), k ≤ B.length ∧ v = .int .i64 k ∧ BlkTo k wr w.heap.size (.slice A B.length c) V U B ∧ wr.heap[g1]? = some (.cells #[.string nm, .int .i64 R, .slice A2 n2 c2, .slice A B.length c] 25 (0, 0)) ∧ wr.heap[g2]? = some (.cells #[.string ⟨#[]⟩, .int .i64 0, .slice none 0 0, .slice none 0 0] 25 (0, 0)) ∧ Below w.heap.size w wr) (fun v _ => B.length - (intOf v).toNat)
  case atStart => exact ⟨0, U, Nat.zero_le _, rfl, HT.out, HK14.out, HK24.out, HB4.out⟩
  case round =>
    obtain ⟨k, V, hk, rfl, hT, hk1, hk2, hb⟩ := hrel
    obtain ⟨wo, rfl⟩ : ∃ wo, wo = wr := ⟨_, rfl⟩
    clear z0 z1 z2 z3
    by_cases hlt : k < B.length
    · obtain ⟨g, cap, hv, hgb, hgl⟩ := hT.own.form (by omega)
      obtain ⟨ad, hA, had⟩ : ∃ ad : Addr, A = some ad ∧ ad = ⟨g, 0, none⟩ := ⟨⟨g, 0, none⟩, by injection hv, rfl⟩
      have hc : c = cap := by injection hv
      subst hA hc
      obtain ⟨A0, c0, hU0, hl0, hC0⟩ := HU.out k hlt
      have hmem := memB hlt
      obtain ⟨x, hx⟩ : ∃ x, x = B.getD k z43 := ⟨_, rfl⟩
      rw [← hx] at hU0 hl0 hC0 hmem
      have hcl := HCO.out x hmem
      have q0 : wo.cell? (ad.add (k * 5)) = some (.slice A0 x.f0.length c0) := by
        rw [had, add_plain]
        have h1 := hT.own.cells (g := g) (by rw [had]; rfl) (k * 5) (V k) (by rw [bcells_get (by omega), bcell0])
        rw [add_plain] at h1
        rw [h1, hT.old k (Nat.le_refl _), hU0]
      have f0 : wo.frozen? (ad.add (k * 5)) = false := by
        rw [had, add_plain]
        have h1 := hT.own
        rw [had] at h1
        exact h1.frozenAt _
      obtain ⟨z0, z1, z2, z3⟩ := cells4 hk1
      have HC0 := Lib.hid (Kd.C_below hC0 hb)
      have HX := Lib.hid hx
      have HAD := Lib.hid had
      have HT := Lib.hid hT
      have HK1 := Lib.hid hk1
      have HK2 := Lib.hid hk2
      have HB := Lib.hid hb
      clear hv hU0 hl0 hC0 hmem hx had hT hk1 hk2 hb
      go_upto_region 5 with fail
      have hbd : Below wo.heap.size wo (wo.alloc (.cells #[] 62)).drew := ((Below.refl wo.heap.size wo).alloc (Nat.le_refl _) (.cells #[] 62)).drew
      have za := cell_up z3 ((Below.refl wo.heap.size wo).alloc (Nat.le_refl _) (.cells #[] 62))
      have qa := cell_up q0 ((Below.refl wo.heap.size wo).alloc (Nat.le_refl _) (.cells #[] 62))
      have HEMP := Lib.hid (show (wo.alloc (.cells #[] 62)).drew.heap[wo.heap.size]? = some (.cells #[] 62 (0, 0)) from World.alloc_heap_new wo _)
      have HCA := Lib.hid (Kd.C_below HC0.out hbd)
      have hg1o := heap_lt HK1.out
      have hado : (ad.add (k * 5)).block < wo.heap.size := World.block_lt_of_cell? wo _ q0
      have hsz : wo.heap.size < (wo.alloc (.cells #[] 62)).drew.heap.size := by show _ < (wo.alloc _).heap.size; rw [alloc_size1]; omega
      have hgt : ∀ {g' : Nat} {cells : Array Value}, wo.heap[g']? = some (.cells cells 25 (0, 0)) → g' ≠ (ad.add (k * 5)).block := fun {g' cells} hg' e => by
        have h1 := HT.out.own
        rw [HAD.out] at h1
        have e2 : g' = g := by rw [e, HAD.out, add_plain]
        rcases h1.2 with ⟨h3, _⟩ | ⟨g2', cap', cur, h3, _, hg2', _⟩
        · cases h3
        · have e3 : g2' = g := by injection h3 with h3 _ _; injection h3 with h3; injection h3 with h3; exact h3.symm
          rw [e3, ← e2, hg'] at hg2'
          injection hg2' with hg2'
          injection hg2' with _ hg2'
          exact absurd hg2' (by decide)
      have hg1a := hgt HK1.out
      have hg2a := hgt HK2.out
      have hpa : ad.add (k * 5) = ⟨g, k * 5, none⟩ := by rw [HAD.out, add_plain]
      have HPA := Lib.hid hpa
      clear hgt hpa
      have HBD := Lib.hid hbd
      clear hbd
      go_region_law
        (first
        | (refine step_irows (w8 := (wo.alloc (.cells #[] 62)).drew) wo.heap.size rfl _ _ rfl rfl A0 x.f0.length c0 rfl HEMP.out x.f0 HCA.out hcl ?_; intro A9 c9 w9 hR9 hg9; have n1 := (hg9.block g1 (by omega) (by simp; omega)).trans ((HBD.out.block g1 hg1o).trans HK1.out); have z9 := (blk_cell n1 3).trans rfl; have m9 := (hg9.block (ad.add (k * 5)).block (by omega) (by simp; omega)).trans (HBD.out.block (ad.add (k * 5)).block hado); have q9 := (World.cell?_of_block (a := ad.add (k * 5)) m9).trans q0; have f9 := (World.frozen?_of_block (a := ad.add (k * 5)) m9).trans f0; have y9 := (World.cell?_of_block (a := ⟨g1, 3, none⟩) (Below.heap_setCell w9 (ad.add (k * 5)) (.slice A9 x.f0.length c9) g1 hg1a)).trans z9; have HR9 := Lib.hid hR9; have HG9 := Lib.hid hg9; clear n1 m9 hR9 hg9)
        | fail)
      all_goals
        have hWb : Below wo.heap.size wo w9 := HBD.out.grown HG9.out (by omega) (fun b hb => by have e : wo.heap.size = b := by simpa using hb
                                                                                                omega)
        have hT' := HT.out
        rw [HAD.out] at hT'
        have hbase := HB.out.size
        have hN := hT'.next (u := .slice A9 x.f0.length c9) hlt hWb hgb hbase (Nat.le_refl _) (by rw [← HX.out]; exact HR9.out)
        rw [← HPA.out, ← HAD.out] at hN
        have HN := Lib.hid hN
        have HK1N := Lib.hid ((Below.heap_setCell w9 (ad.add (k * 5)) (.slice A9 x.f0.length c9) g1 hg1a).trans ((hWb.block g1 hg1o).trans HK1.out))
        have HK2N := Lib.hid ((Below.heap_setCell w9 (ad.add (k * 5)) (.slice A9 x.f0.length c9) g2 hg2a).trans ((hWb.block g2 (heap_lt HK2.out)).trans HK2.out))
        have HBN := Lib.hid ((HB.out.trans (hWb.mono hbase)).setCell (p := ad.add (k * 5)) (by rw [HPA.out]; exact hgb) (.slice A9 x.f0.length c9))
        clear hT' hN hWb z9 q9 f9 y9 za qa
        go_wp2
        go_roundw
        case rel => exact ⟨k + 1, _, by omega, by go_num, HN.out, HK1N.out, HK2N.out, HBN.out⟩
        case measure => simp [intOf]; omega
    · have e : k = B.length := by omega
      subst e
      have HBK := Lib.hid hT.all
      have HK2 := Lib.hid hk2
      have HB := Lib.hid hb
      obtain ⟨z0, z1, z2, z3⟩ := cells4 hk1
      obtain ⟨x0, x1, x2, x3⟩ := cells4 hk2
      have f0 := blk_frozen hk2 0
      have f1 := blk_frozen hk2 1
      have f2 := blk_frozen hk2 2
      have f3 := blk_frozen hk2 3
      clear hT hk1 hk2 hb
      go_wp2
      have hkz := blk_four HK2.out (.string nm) (.int .i64 R) (.slice A2 n2 c2) (.slice A B.length c)
      have hT4 := ((((HBK.out.to.set HK2.out (by decide) (by decide) 0 (.string nm)).set (blk_put HK2.out 0 (.string nm) rfl) (by decide) (by decide) 1 (.int .i64 R)).set (blk_put (blk_put HK2.out 0 (.string nm) rfl) 1 (.int .i64 R) rfl) (by decide) (by decide) 2 (.slice A2 n2 c2)).set (blk_put (blk_put (blk_put HK2.out 0 (.string nm) rfl) 1 (.int .i64 R) rfl) 2 (.slice A2 n2 c2) rfl) (by decide) (by decide) 3 (.slice A B.length c)).all
      have HG2L : w.heap.size ≤ g2 := by rw [HG2.out]; exact HBW1.out.size
      have HBZ := Lib.hid ((((HB.out.setCell (p := ⟨g2, 0, none⟩) HG2L (.string nm)).setCell (p := ⟨g2, 1, none⟩) HG2L (.int .i64 R)).setCell (p := ⟨g2, 2, none⟩) HG2L (.slice A2 n2 c2)).setCell (p := ⟨g2, 3, none⟩) HG2L (.slice A B.length c))
      obtain ⟨wz, hwz⟩ : ∃ wz, wz = ((((wo.setCell ⟨g2, 0, none⟩ (.string nm)).setCell ⟨g2, 1, none⟩ (.int .i64 R)).setCell ⟨g2, 2, none⟩ (.slice A2 n2 c2)).setCell ⟨g2, 3, none⟩ (.slice A B.length c)) := ⟨_, rfl⟩
      rw [← hwz] at hkz hT4 HBZ ⊢
      have HTZ := Lib.hid hT4
      clear hwz hT4 x0 x1 x2 x3 f0 f1 f2 f3 z0 z1 z2 z3
      obtain ⟨x0, x1, x2, x3⟩ := cells4 hkz
      (try simp only [Exit.inBlock, Exit.then])
      refine bodyPost_ret (v := .agg #[.string nm, .int .i64 R, .slice A2 n2 c2, .slice A B.length c]) ?hr rfl ?_
      case hr =>
        unfold results
        rw [show Try.f28.results = #[.cell 2 25] from rfl]
        simp
        go_simp
      exact ⟨_, V, rfl, HTZ.out, HBZ.out⟩
end Go.Proofs.Ythgodpmahdnnjaa
end
section
namespace Go.Proofs.Ythgodpmahdnnjaa
open Go.RowKit Go.Proofs.YthgodpmahdnnjaaW.PrintWords Go.Proofs.YthgodpmahdnnjaaW.PrintMore Go.Proofs.Ythgodpmahdnnjaa.H
def smallB (R : Int) (B : List S43) : Bool := decide (B.length ≤ 10) && decide (R ≤ 12) && B.all fun b => decide (b.f0.length ≤ 20)
theorem small_l0 {B : List S43} (hn : B.length ≤ 10) : ∀ (d i k : Nat), i + d = B.length → d < k → ontimelaw19_small.l0 k B (B.length : Int) (i : Int) = some ((B.drop i).all fun b => decide (b.f0.length ≤ 20))
  | 0, i, k, hi, hk => by
    obtain ⟨k, rfl⟩ := k_add hk
    rw [ontimelaw19_small.l0, if_neg (by omega), List.drop_eq_nil_of_le (by omega)]; rfl
  | d + 1, i, k, hi, hk => by
    obtain ⟨k, rfl⟩ := k_add (show 1 ≤ k by omega)
    have hlt : i < B.length := by omega
    have hrd : rd_T43 B (i : Int) = B[i] := by unfold rd_T43; rw [Int.toNat_natCast, List.getD_eq_getElem?_getD, List.getElem?_eq_getElem hlt]; rfl
    rw [ontimelaw19_small.l0, if_pos (by omega), if_pos (by omega), if_pos (by omega), hrd, List.drop_eq_getElem_cons hlt, List.all_cons]
    by_cases h : (B[i].f0.length : Int) > 20
    · rw [if_pos h, decide_eq_false (by omega)]; rfl
    · rw [if_neg h, decide_eq_true (show B[i].f0.length ≤ 20 by omega), wr64 (by omega), Bool.true_and]
      exact small_l0 hn d (i + 1) k (by omega) (by omega)
theorem small_f (nm : ByteArray) (R : Int) (ar : List S107) (B : List S43) : ontimelaw19_small.f 20 nm R ar B = some (smallB R B) := by
  unfold ontimelaw19_small.f smallB
  by_cases h1 : (B.length : Int) > 10
  · rw [if_pos h1, decide_eq_false (show ¬ B.length ≤ 10 by omega)]
    rw [ontimelaw19_small.j0, if_pos rfl]; rfl
  · rw [if_neg h1, decide_eq_true (show B.length ≤ 10 by omega), ontimelaw19_small.j0]
    by_cases h2 : R > 12
    · rw [if_pos (decide_eq_true h2), decide_eq_false (show ¬ R ≤ 12 by omega)]; rfl
    · rw [if_neg (by rw [decide_eq_false h2]; simp), decide_eq_true (show R ≤ 12 by omega), Bool.true_and, Bool.true_and]
      exact small_l0 (by omega) B.length 0 19 (by omega) (by omega)
theorem small_of {R : Int} {B : List S43} (h : smallB R B = true) : B.length ≤ 10 ∧ R ≤ 12 ∧ ∀ x ∈ B, x.f0.length ≤ 20 := by
  unfold smallB at h
  rw [Bool.and_eq_true, Bool.and_eq_true, decide_eq_true_eq, decide_eq_true_eq, List.all_eq_true] at h
  exact ⟨h.1.1, h.1.2, fun x hx => of_decide_eq_true (h.2 x hx)⟩
def formB (R : Int) (B : List S43) : Bool := smallB R B && wfB R B
set_option maxHeartbeats 4000000 in
set_option maxRecDepth 100000 in
theorem form_calls (nm : ByteArray) (R : Int) (A2 : Option Addr) (c2 : Nat) (ar : List S107) (A3 : Option Addr) (c3 : Nat) (B : List S43) (w : World) (hC2 : k107.C w A2 ar.length ar) (hc2 : ar.length ≤ c2) (hC3 : k43.C w A3 B.length B) (hc3 : B.length ≤ c3) :
    Calls Try.prog 23 #[.agg #[.string nm, .int .i64 R, .slice A2 ar.length c2, .slice A3 B.length c3]] w fun e w' => e = .returned (.bool (formB R B)) ∧ Below w.heap.size w w' := by
  obtain ⟨o, ho⟩ : ∃ o, o = smallB R B := ⟨_, rfl⟩
  have HO := Lib.hid ho
  have HC2 := Lib.hid hC2
  have HC3 := Lib.hid hC3
  have HSM := Lib.hid (small_f nm R ar B)
  clear hC2 hC3
  cases o with
  | false =>
    have HF := Lib.hid (show formB R B = false by unfold formB; rw [← HO.out]; rfl)
    clear ho
    go_enter Try.func23, Try.ntmps23
    go_wp2_with (first
      | ((with_reducible refine gate_dst (N := 1) rfl ?_); refine box_event ?hg (N := 1) ?hd (cs := #[.string nm, .int .i64 R, .slice A2 ar.length c2, .slice A3 B.length c3]) (t := 25) ?hr ?_; (case hd => rfl); (case hg => rfl); (case hr => first | (go_simp; done) | (go_simp; rfl)); intro g1 hg1 w1 hbox1 hbw1; have HBW1 := Lib.hid hbw1; obtain ⟨z0, z1, z2, z3⟩ := cells4 hbox1; clear hbox1 hbw1 hg1)
      | (go_at_call 9; refine (ontimelaw19_small.calls 20 nm R A2 c2 ar A3 c3 B _ _ (Kd.C_below HC2.out HBW1.out) hc2 (Kd.C_below HC3.out HBW1.out) hc3 HSM.out).mono ?_; rw [← HO.out]; rintro e w3 ⟨rfl, hb3⟩; have HB3 := Lib.hid hb3; clear hb3)
      | fail)
    go_ret
    exact ⟨by rw [HF.out]; rfl, HBW1.out.trans (HB3.out.mono HBW1.out.size)⟩
  | true =>
    obtain ⟨hn, hR, hco⟩ := small_of ho.symm
    have hn1 : B.length ≤ 1000 := by omega
    have HCO := Lib.hid (show ∀ x ∈ B, x.f0.length ≤ 1000 from fun x hx => Nat.le_trans (hco x hx) (by decide))
    have HF := Lib.hid (show formB R B = wfB R B by unfold formB; rw [← HO.out]; rfl)
    obtain ⟨q, hq⟩ : ∃ q, q = wfB R B := ⟨_, rfl⟩
    have HQ := Lib.hid hq
    clear hco ho hq
    go_enter Try.func23, Try.ntmps23
    go_wp2_with (first
      | ((with_reducible refine gate_dst (N := 1) rfl ?_); refine box_event ?hg (N := 1) ?hd (cs := #[.string nm, .int .i64 R, .slice A2 ar.length c2, .slice A3 B.length c3]) (t := 25) ?hr ?_; (case hd => rfl); (case hg => rfl); (case hr => first | (go_simp; done) | (go_simp; rfl)); intro g1 hg1 w1 hbox1 hbw1; have HBW1 := Lib.hid hbw1; have BK1 := Lib.hid hbox1; obtain ⟨z0, z1, z2, z3⟩ := cells4 hbox1; clear hbox1 hbw1 hg1)
      | (go_at_call 9; refine (ontimelaw19_small.calls 20 nm R A2 c2 ar A3 c3 B _ _ (Kd.C_below HC2.out HBW1.out) hc2 (Kd.C_below HC3.out HBW1.out) hc3 HSM.out).mono ?_; rw [← HO.out]; rintro e w3 ⟨rfl, hb3⟩; have HB3 := Lib.hid hb3; have BK3 := Lib.hid (heap_below BK1.out hb3); clear hb3 z0 z1 z2 z3; obtain ⟨z0, z1, z2, z3⟩ := cells4 BK3.out)
      | (go_at_call 11; refine (Plain_calls nm R A2 ar.length c2 A3 c3 B _ (Kd.C_below (Kd.C_below HC3.out HBW1.out) HB3.out) hn1 HCO.out).mono ?_; rintro e w7 ⟨Am, cm, rfl, hlm, hCm, hb7⟩; have HCm := Lib.hid hCm; have HB7 := Lib.hid hb7; clear hCm hb7 z0 z1 z2 z3)
      | (go_at_call 12; refine (Form_calls nm R A2 ar.length c2 Am cm B _ HCm.out hn1 HCO.out).mono ?_; rw [← HQ.out]; rintro e w10 ⟨rfl, hb10⟩; have HB10 := Lib.hid hb10; clear hb10)
      | fail)
    go_ret
    exact ⟨by rw [HF.out, ← HQ.out]; rfl, HBW1.out.trans ((HB3.out.trans ((HB7.out.trans (HB10.out.mono HB7.out.size)).mono HB3.out.size)).mono HBW1.out.size)⟩
end Go.Proofs.Ythgodpmahdnnjaa
end
section
namespace Go.Proofs.Ythgodpmahdnnjaa
open Go.RowKit Go.Proofs.YthgodpmahdnnjaaW.PrintWords Go.Proofs.YthgodpmahdnnjaaW.PrintMore Go.Proofs.Ythgodpmahdnnjaa.H
section
variable {N : Nat} {B : List S43} {I O I' O' : Nat → Nat}
theorem SI.uniq (hB : OkF N B) (h : SI N B I O []) (h' : SI N B I' O' []) {b : Nat} (hb : b < B.length) : I b = I' b ∧ O b = O' b := by
  constructor
  · apply Nat.eq_of_testBit_eq
    intro r
    rw [Bool.eq_iff_iff, h.in_iff hB hb r, h'.in_iff hB hb r]
  · apply Nat.eq_of_testBit_eq
    intro r
    rw [Bool.eq_iff_iff, h.out_iff hB hb r, h'.out_iff hB hb r]
theorem lstN_congr {I I' : Nat → Nat} {n : Nat} (h : ∀ b, b < n → I b = I' b) : lstN I n = lstN I' n := by
  unfold lstN
  exact List.map_congr_left fun b hb => by rw [h b (List.mem_range.1 hb)]
theorem visL_congr {O O' : Nat → Nat} {n : Nat} (h : ∀ b, b < n → O b = O' b) : visL B O n = visL B O' n := by
  induction n with
  | zero => rfl
  | succ n ih => rw [visL_succ, visL_succ, ih (fun b hb => h b (by omega)), h n (by omega)]
theorem lstN_le {I : Nat → Nat} {n : Nat} : ∀ l ∈ lstN I n, l.length ≤ 1000 := fun l hl => by
  unfold lstN at hl
  obtain ⟨b, _, rfl⟩ := List.mem_map.1 hl
  exact Nat.le_trans (listN_le _) (by decide)
end
def Wrow (W : World) (base : Nat) (v : Value) (n : Nat) : Prop :=
  ∃ A c, v = .slice A n c ∧ (0 < n → ∃ g cs, A = some ⟨g, 0, none⟩ ∧ base ≤ g ∧ W.heap[g]? = some (.cells cs 3 (0, 0)) ∧ n ≤ cs.size)
theorem Wrow.set {W : World} {base : Nat} {v : Value} {n : Nat} (h : Wrow W base v n) (p j : Nat) (u : Value) : Wrow (W.setCell ⟨p, j, none⟩ u) base v n := by
  obtain ⟨A, c, hv, h⟩ := h
  refine ⟨A, c, hv, fun hp => ?_⟩
  obtain ⟨g, cs, hA, hb, hg, hn⟩ := h hp
  by_cases e : g = p
  · subst e
    refine ⟨g, cs.setIfInBounds j u, hA, hb, ?_, by simpa using hn⟩
    show (W.heap.modify _ _)[g]? = _
    rw [Array.getElem?_modify, if_pos rfl, hg]
    rfl
  · exact ⟨g, cs, hA, hb, (Below.heap_setCell W ⟨p, j, none⟩ u g e).trans hg, hn⟩
theorem Wrow.cell {W : World} {base : Nat} {v : Value} {n : Nat} (h : Wrow W base v n) {j : Nat} (hj : j < n) : ∃ g c u, v = .slice (some ⟨g, 0, none⟩) n c ∧ base ≤ g ∧ W.cell? ⟨g, j, none⟩ = some u ∧ W.frozen? ⟨g, j, none⟩ = false ∧ ∃ cs, W.heap[g]? = some (.cells cs 3 (0, 0)) := by
  obtain ⟨A, c, hv, h⟩ := h
  obtain ⟨g, cs, rfl, hb, hg, hn⟩ := h (by omega)
  exact ⟨g, c, cs[j], hv, hb, (cell_of_row hg (Array.getElem?_eq_getElem (by omega))).1, (cell_of_row hg (Array.getElem?_eq_getElem (by omega))).2, cs, hg⟩
structure WRows (W : World) (base : Nat) (v : Value) (xs : List Value) (n : Nat) (li : Nat → Nat) : Prop where
  own : W.ownsRow base 39 1 v n xs
  row : ∀ i, i < n → Wrow W base (xs.getD i undef) (li i)
theorem WRows.of {W : World} {base : Nat} {v : Value} {ls : List (List Int)} (h : RowsOf W base v ls) : ∃ xs, WRows W base v xs ls.length (fun i => (ls.getD i []).length) := by
  obtain ⟨xs, h1, h2, h3⟩ := h
  refine ⟨xs, h2, fun i hi => ?_⟩
  rcases (h3 i hi).2 with ⟨e, h0⟩ | ⟨g, cap, cur, e, hb, hg, hn, _, hc, _⟩
  · exact ⟨none, 0, by rw [e, h0], fun hp => by omega⟩
  · exact ⟨some ⟨g, 0, none⟩, cap, e, fun _ => ⟨g, cur, rfl, hb, hg, by omega⟩⟩
theorem WRows.set {W : World} {base : Nat} {v : Value} {xs : List Value} {n : Nat} {li : Nat → Nat} (h : WRows W base v xs n li) {g : Nat} {cs : Array Value} (hg : W.heap[g]? = some (.cells cs 3 (0, 0))) (j : Nat) (u : Value) : WRows (W.setCell ⟨g, j, none⟩ u) base v xs n li := by
  refine ⟨own_move h.own fun b hb => Below.heap_setCell W ⟨g, j, none⟩ u b fun e => ?_, fun i hi => (h.row i hi).set g j u⟩
  obtain ⟨cs', hc⟩ := row_cells h.own b hb
  rw [show b = g from e, hg] at hc
  injection hc with hc
  injection hc with _ hc
  exact absurd hc (by decide)
theorem WRows.below {W W1 : World} {base : Nat} {v : Value} {xs : List Value} {n : Nat} {li : Nat → Nat} (h : WRows W base v xs n li) (hb : Below W.heap.size W W1) : WRows W1 base v xs n li := by
  refine ⟨own_move h.own fun b hv => hb.block b (h.own.lt b hv).2, fun i hi => ?_⟩
  obtain ⟨A, c, hv, h2⟩ := h.row i hi
  refine ⟨A, c, hv, fun hp => ?_⟩
  obtain ⟨g, cs, hA, hbg, hg, hn⟩ := h2 hp
  exact ⟨g, cs, hA, hbg, heap_below hg hb, hn⟩
theorem WRows.at_ {W : World} {base : Nat} {A : Option Addr} {n c : Nat} {xs : List Value} {li : Nat → Nat} (h : WRows W base (.slice A n c) xs n li) {i : Nat} (hi : i < n) :
    ∃ ga L d, A = some ⟨ga, 0, none⟩ ∧ xs.getD i undef = .slice L (li i) d ∧ W.cell? ⟨ga, i, none⟩ = some (.slice L (li i) d) := by
  obtain ⟨ga, cap, hv, _, _⟩ := h.own.form (by omega)
  obtain ⟨L, d, hx, _⟩ := h.row i hi
  refine ⟨ga, L, d, by injection hv, hx, ?_⟩
  have hl : xs.length = n := by have := h.own.1; omega
  have h1 := h.own.cells (g := ga) (by rw [hv]; rfl) i (xs.getD i undef) (by rw [List.getD_eq_getElem?_getD, List.getElem?_eq_getElem (by omega)]; rfl)
  rw [add_plain] at h1
  rw [h1, hx]
structure TW (wB : World) (base g8 n : Nat) (Ai : Option Addr) (ci : Nat) (Ao : Option Addr) (co : Nat) (xi xo : List Value) (li lo : Nat → Nat) (W : World) : Prop where
  box : W.heap[g8]? = some (.cells #[.slice Ai n ci, .slice Ao n co] 30 (0, 0))
  i : WRows W base (.slice Ai n ci) xi n li
  o : WRows W base (.slice Ao n co) xo n lo
  bel : Below base wB W
theorem TW.set {wB : World} {base g8 n : Nat} {Ai : Option Addr} {ci : Nat} {Ao : Option Addr} {co : Nat} {xi xo : List Value} {li lo : Nat → Nat} {W : World} (h : TW wB base g8 n Ai ci Ao co xi xo li lo W) {g : Nat} {cs : Array Value} (hg : W.heap[g]? = some (.cells cs 3 (0, 0))) (hb : base ≤ g) (j : Nat) (u : Value) : TW wB base g8 n Ai ci Ao co xi xo li lo (W.setCell ⟨g, j, none⟩ u) :=
  ⟨(Below.heap_setCell W ⟨g, j, none⟩ u g8 fun e => by
      have e2 : g8 = g := e
      have := h.box
      rw [e2, hg] at this
      injection this with this
      injection this with _ this
      exact absurd this (by decide)).trans h.box, h.i.set hg j u, h.o.set hg j u, h.bel.setCell (p := ⟨g, j, none⟩) hb u⟩
structure LvF (w0 : World) (nm : ByteArray) (N : Nat) (A2 : Option Addr) (ar : List S107) (c2 : Nat) (A3 : Option Addr) (c3 : Nat) (B : List S43) (Ac : Option Addr) (cc : Nat) (Ai : Option Addr) (ci : Nat) (Ao : Option Addr) (co : Nat) (Al : Option Addr) (I O : Nat → Nat) (L : List (List Int)) (g1 g3 g4 : Nat) (W : World) : Prop where
  b1 : W.heap[g1]? = some (.cells #[.string nm, .int .i64 N, .slice A2 ar.length c2, .slice A3 B.length c3] 25 (0, 0))
  b3 : W.heap[g3]? = some (.cells #[.string nm, .int .i64 N, .slice A2 ar.length c2, .slice Ac B.length cc] 25 (0, 0))
  b4 : W.heap[g4]? = some (.cells #[.slice Ai B.length ci, .slice Ao B.length co] 30 (0, 0))
  cA : k107.C W A2 ar.length ar
  cB : k43.C W A3 B.length B
  cC : k43.C W Ac B.length B
  cI : (Kd.slice 3 (Kd.int .i64)).C W Ai B.length (lstN I B.length)
  cO : (Kd.slice 3 (Kd.int .i64)).C W Ao B.length (lstN O B.length)
  cL : (Kd.slice 3 (Kd.int .i64)).C W Al L.length L
  bw : Below w0.heap.size w0 W
theorem LvF.step {w0 : World} {nm : ByteArray} {N : Nat} {A2 : Option Addr} {ar : List S107} {c2 : Nat} {A3 : Option Addr} {c3 : Nat} {B : List S43} {Ac : Option Addr} {cc : Nat} {Ai : Option Addr} {ci : Nat} {Ao : Option Addr} {co : Nat} {Al : Option Addr} {I O : Nat → Nat} {L : List (List Int)} {g1 g3 g4 : Nat} {W W1 : World}
    (h : LvF w0 nm N A2 ar c2 A3 c3 B Ac cc Ai ci Ao co Al I O L g1 g3 g4 W) (hb : Below W.heap.size W W1) : LvF w0 nm N A2 ar c2 A3 c3 B Ac cc Ai ci Ao co Al I O L g1 g3 g4 W1 :=
  ⟨heap_below h.b1 hb, heap_below h.b3 hb, heap_below h.b4 hb, Kd.C_below h.cA hb, Kd.C_below h.cB hb, Kd.C_below h.cC hb, Kd.C_below h.cI hb, Kd.C_below h.cO hb, Kd.C_below h.cL hb, h.bw.trans (hb.mono h.bw.size)⟩
theorem LvF.cells {w0 : World} {nm : ByteArray} {N : Nat} {A2 : Option Addr} {ar : List S107} {c2 : Nat} {A3 : Option Addr} {c3 : Nat} {B : List S43} {Ac : Option Addr} {cc : Nat} {Ai : Option Addr} {ci : Nat} {Ao : Option Addr} {co : Nat} {Al : Option Addr} {I O : Nat → Nat} {L : List (List Int)} {g1 g3 g4 : Nat} {W : World}
    (h : LvF w0 nm N A2 ar c2 A3 c3 B Ac cc Ai ci Ao co Al I O L g1 g3 g4 W) : W.cell? ⟨g1, 0, none⟩ = some (.string nm) ∧ W.cell? ⟨g1, 1, none⟩ = some (.int .i64 N) ∧ W.cell? ⟨g1, 2, none⟩ = some (.slice A2 ar.length c2) ∧ W.cell? ⟨g1, 3, none⟩ = some (.slice A3 B.length c3) ∧
      W.cell? ⟨g3, 0, none⟩ = some (.string nm) ∧ W.cell? ⟨g3, 1, none⟩ = some (.int .i64 N) ∧ W.cell? ⟨g3, 2, none⟩ = some (.slice A2 ar.length c2) ∧ W.cell? ⟨g3, 3, none⟩ = some (.slice Ac B.length cc) ∧ W.cell? ⟨g4, 0, none⟩ = some (.slice Ai B.length ci) ∧ W.cell? ⟨g4, 1, none⟩ = some (.slice Ao B.length co) :=
  ⟨(cells4 h.b1).1, (cells4 h.b1).2.1, (cells4 h.b1).2.2.1, (cells4 h.b1).2.2.2, (cells4 h.b3).1, (cells4 h.b3).2.1, (cells4 h.b3).2.2.1, (cells4 h.b3).2.2.2, (cells2 h.b4).1, (cells2 h.b4).2⟩
end Go.Proofs.Ythgodpmahdnnjaa
end
section
namespace Go.Proofs.Ythgodpmahdnnjaa
open Go.RowKit Go.Proofs.YthgodpmahdnnjaaW.PrintWords Go.Proofs.YthgodpmahdnnjaaW.PrintMore Go.Proofs.Ythgodpmahdnnjaa.H
set_option maxHeartbeats 8000000 in
set_option maxRecDepth 100000 in
theorem LV_no (nm : ByteArray) (R : Int) (A2 : Option Addr) (c2 : Nat) (ar : List S107) (A3 : Option Addr) (c3 : Nat) (B : List S43) (w : World) (ho : false = formB R B) (hC2 : k107.C w A2 ar.length ar) (hc2 : ar.length ≤ c2) (hC3 : k43.C w A3 B.length B) (hc3 : B.length ≤ c3) :
    Calls Try.prog 7 #[.agg #[.string nm, .int .i64 R, .slice A2 ar.length c2, .slice A3 B.length c3]] w fun e w' => e = .returned (.bool true) ∧ Below w.heap.size w w' := by
  have HO := Lib.hid ho
  have HC2 := Lib.hid hC2
  have HC3 := Lib.hid hC3
  clear hC2 hC3 ho
  go_enter Try.func7, Try.ntmps7
  go_wp2_with (first
    | ((with_reducible refine gate_dst (N := 1) rfl ?_); refine box_event ?hg (N := 1) ?hd (cs := #[.string nm, .int .i64 R, .slice A2 ar.length c2, .slice A3 B.length c3]) (t := 25) ?hr ?_; (case hd => rfl); (case hg => rfl); (case hr => first | (go_simp; done) | (go_simp; rfl)); intro g1 hg1 w1 hbox1 hbw1; have HBW1 := Lib.hid hbw1; have BK1 := Lib.hid hbox1; clear hbox1 hbw1 hg1)
    | (go_at_call 8; have hx := HB3.out; clear hx; refine (awake_calls _).mono ?_; rintro e w4 ⟨rfl, hb4⟩; have HB4 := Lib.hid hb4; clear hb4)
    | (go_at_call 8; refine (awake_calls _).mono ?_; rintro e w2 ⟨rfl, hb2⟩; have HB2 := Lib.hid hb2; have BK2 := Lib.hid (heap_below BK1.out hb2); clear hb2; obtain ⟨z0, z1, z2, z3⟩ := cells4 BK2.out)
    | (go_at_call 23; refine (form_calls nm R A2 c2 ar A3 c3 B _ (Kd.C_below (Kd.C_below HC2.out HBW1.out) HB2.out) hc2 (Kd.C_below (Kd.C_below HC3.out HBW1.out) HB2.out) hc3).mono ?_; rw [← HO.out]; rintro e w3 ⟨rfl, hb3⟩; have HB3 := Lib.hid hb3; clear hb3 z0 z1 z2 z3)
    | fail)
  go_ret
  exact ⟨rfl, HBW1.out.trans ((HB2.out.trans ((HB3.out.trans (HB4.out.mono HB3.out.size)).mono HB2.out.size)).mono HBW1.out.size)⟩
set_option maxHeartbeats 8000000 in
set_option maxRecDepth 100000 in
theorem LV_yes (nm : ByteArray) (R : Int) (A2 : Option Addr) (c2 : Nat) (ar : List S107) (A3 : Option Addr) (c3 : Nat) (B : List S43) (w : World) (ho : true = formB R B) (hC2 : k107.C w A2 ar.length ar) (hc2 : ar.length ≤ c2) (hC3 : k43.C w A3 B.length B) (hc3 : B.length ≤ c3) :
    Calls Try.prog 7 #[.agg #[.string nm, .int .i64 R, .slice A2 ar.length c2, .slice A3 B.length c3]] w fun e w' => e = .returned (.bool true) ∧ Below w.heap.size w w' := by
  have hsm : smallB R B = true ∧ wfB R B = true := by unfold formB at ho; rw [← Bool.and_eq_true]; exact ho.symm
  obtain ⟨hn, hR, hco⟩ := small_of hsm.1
  have hn1 : B.length ≤ 1000 := by omega
  have hn3 : B.length ≤ 30 := by omega
  have HCO := Lib.hid (show ∀ x ∈ B, x.f0.length ≤ 1000 from fun x hx => Nat.le_trans (hco x hx) (by decide))
  have HQ := Lib.hid hsm.2
  obtain ⟨N, rfl, hN, hF⟩ := (wfB_iff R B).1 hsm.2
  have hN3 : N ≤ 30 := by omega
  have hR3 : (N : Int) ≤ 30 := by omega
  have HF := Lib.hid hF
  have HO := Lib.hid ho
  have HC2 := Lib.hid hC2
  have HC3 := Lib.hid hC3
  clear hC2 hC3 ho hsm hco hF hN hR
  have HOF := Lib.hid (fun (W : World) (h : k43.C W A3 B.length B) => (Of_calls nm N hR3 A2 c2 ar.length A3 c3 B W h hc3 hn3 HCO.out).mono (fun e w' (hh : _ ∧ _) => show ∃ (Ai : Option Addr) (ci : Nat) (Ao : Option Addr) (co : Nat) (I O : Nat → Nat), e = .returned (.tuple #[.agg #[.slice Ai B.length ci, .slice Ao B.length co], .int .i64 0]) ∧ SI N B I O [] ∧ RowsOf w' W.heap.size (.slice Ai B.length ci) (lstN I B.length) ∧ RowsOf w' W.heap.size (.slice Ao B.length co) (lstN O B.length) ∧ Below W.heap.size W w' from by
    obtain ⟨hof, hb⟩ := hh
    rcases hof with ⟨hff, _⟩ | ⟨N', vi, vo, I, O, hN', _, he, hsi, hRi, hRo⟩
    · rw [HQ.out] at hff; cases hff
    · obtain rfl : N = N' := by omega
      obtain ⟨Ai, ci, rfl, _, _⟩ := hRi.C
      obtain ⟨Ao, co, rfl, _, _⟩ := hRo.C
      rw [lstN_length] at hRi hRo
      rw [lstN_length, lstN_length] at he
      exact ⟨Ai, ci, Ao, co, I, O, he, hsi, hRi, hRo, hb⟩))
  have HINF := Lib.hid (fun (W : World) (h : k43.C W A3 B.length B) => (Interference_calls nm N hR3 A2 c2 ar.length A3 c3 B W h hc3 hn3 HCO.out).mono (fun e w' (hh : _ ∧ _) => show ∃ (Al : Option Addr) (cl : Nat) (I O : Nat → Nat), e = .returned (.tuple #[.slice Al N cl, .int .i64 0]) ∧ SI N B I O [] ∧ (Kd.slice 3 (Kd.int .i64)).C w' Al N ((List.range N).map fun r => listN (infN B (visL B O B.length) r)) ∧ Below W.heap.size W w' from by
    obtain ⟨hof, hb⟩ := hh
    rcases hof with ⟨hff, _⟩ | ⟨N', v, I, O, hN', _, he, hsi, hR⟩
    · rw [HQ.out] at hff; cases hff
    · obtain rfl : N = N' := by omega
      obtain ⟨Al, cl, rfl, _, hC⟩ := hR.C
      have hl : ((List.range N).map fun r => listN (infN B (visL B O B.length) r)).length = N := by simp
      rw [hl] at he hC
      exact ⟨Al, cl, I, O, he, hsi, hC, hb⟩))
  go_enter Try.func7, Try.ntmps7
  go_upto_region 4 with (first
    | ((with_reducible refine gate_dst (N := 1) rfl ?_); refine box_event ?hg (N := 1) ?hd (cs := #[.string nm, .int .i64 N, .slice A2 ar.length c2, .slice A3 B.length c3]) (t := 25) ?hr ?_; (case hd => rfl); (case hg => rfl); (case hr => first | (go_simp; done) | (go_simp; rfl)); intro g1 hg1 w1 hbox1 hbw1; have HBW1 := Lib.hid hbw1; have BK1 := Lib.hid hbox1; clear hbox1 hbw1 hg1)
    | ((with_reducible refine gate_dst (N := 3) rfl ?_); refine box_event ?hg (N := 3) ?hd (cs := #[.string ⟨#[]⟩, .int .i64 0, .slice none 0 0, .slice none 0 0]) (t := 25) ?hr ?_; (case hd => rfl); (case hg => rfl); (case hr => first | (go_simp; done) | (go_simp; rfl)); intro g3 hg3 w5 hbox3 hbw3; have HBW3 := Lib.hid hbw3; have BK3 := Lib.hid hbox3; have HG3 := Lib.hid hg3; have f0 := blk_frozen hbox3 0; have f1 := blk_frozen hbox3 1; have f2 := blk_frozen hbox3 2; have f3 := blk_frozen hbox3 3; obtain ⟨y0, y1, y2, y3⟩ := cells4 hbox3; clear hbox3 hbw3 hg3)
    | (go_at_call 8; refine (awake_calls _).mono ?_; rintro e w2 ⟨rfl, hb2⟩; have HB2 := Lib.hid (HBW1.out.trans (hb2.mono HBW1.out.size)); have BK2 := Lib.hid (heap_below BK1.out hb2); clear hb2; obtain ⟨z0, z1, z2, z3⟩ := cells4 BK2.out)
    | (go_at_call 23; refine (form_calls nm N A2 c2 ar A3 c3 B _ (Kd.C_below HC2.out HB2.out) hc2 (Kd.C_below HC3.out HB2.out) hc3).mono ?_; rw [← HO.out]; rintro e w3 ⟨rfl, hb3⟩; have HB3 := Lib.hid (HB2.out.trans (hb3.mono HB2.out.size)); have BK3' := Lib.hid (heap_below BK2.out hb3); clear hb3 z0 z1 z2 z3; obtain ⟨z0, z1, z2, z3⟩ := cells4 BK3'.out)
    | (go_at_call 28; refine (copied_calls nm N A2 ar.length c2 A3 c3 B _ (Kd.C_below HC3.out HB3.out) hn1 HCO.out).mono ?_; rintro e w4 ⟨vc, V, rfl, hblk, hb4⟩; obtain ⟨Ac, cc, rfl, _, hCc⟩ := hblk.C; have HCC := Lib.hid hCc; have HB4 := Lib.hid (HB3.out.trans (hb4.mono HB3.out.size)); have BK4 := Lib.hid (heap_below BK3'.out hb4); clear hb4 hblk hCc z0 z1 z2 z3; obtain ⟨z0, z1, z2, z3⟩ := cells4 BK4.out)
    | fail)
  have hl3 : w4.heap.size ≤ g3 := by rw [HG3.out]; exact Nat.le_refl _
  obtain ⟨w6, hw6⟩ : ∃ w6, w6 = ((((w5.setCell ⟨g3, 0, none⟩ (.string nm)).setCell ⟨g3, 1, none⟩ (.int .i64 N)).setCell ⟨g3, 2, none⟩ (.slice A2 ar.length c2)).setCell ⟨g3, 3, none⟩ (.slice Ac B.length cc)) := ⟨_, rfl⟩
  rw [← hw6]
  have hb46 : Below w4.heap.size w4 w6 := by rw [hw6]; exact (((HBW3.out.setCell (p := ⟨g3, 0, none⟩) hl3 _).setCell (p := ⟨g3, 1, none⟩) hl3 _).setCell (p := ⟨g3, 2, none⟩) hl3 _).setCell (p := ⟨g3, 3, none⟩) hl3 _
  have hk3 : w6.heap[g3]? = some (.cells #[.string nm, .int .i64 N, .slice A2 ar.length c2, .slice Ac B.length cc] 25 (0, 0)) := by rw [hw6]; exact blk_four BK3.out _ _ _ _
  have hb06 := HB4.out.trans (hb46.mono HB4.out.size)
  have HK3 := Lib.hid hk3
  have HK1 := Lib.hid (heap_below BK4.out hb46)
  have HCC6 := Lib.hid (Kd.C_below HCC.out hb46)
  have HB6 := Lib.hid hb06
  have HC36 := Lib.hid (Kd.C_below HC3.out hb06)
  clear hl3 hw6 hb46 hk3 hb06 f0 f1 f2 f3 y0 y1 y2 y3 z0 z1 z2 z3 BK3 HBW3 HG3 BK4 BK3' BK2 BK1 HB4 HB3 HB2 HBW1 HCC
  obtain ⟨z0, z1, z2, z3⟩ := cells4 HK1.out
  go_upto_region 5 with (first
    | ((with_reducible refine gate_dst (N := 4) rfl ?_); refine box_event ?hg (N := 4) ?hd (cs := #[.slice none 0 0, .slice none 0 0]) (t := 30) ?hr ?_; (case hd => rfl); (case hg => rfl); (case hr => first | (go_simp; done) | (go_simp; rfl)); intro g4 hg4 w8 hbox4 hbw4; have HBW4 := Lib.hid hbw4; have BK4 := Lib.hid hbox4; have HG4 := Lib.hid hg4; have f0 := blk_frozen hbox4 0; have f1 := blk_frozen hbox4 1; obtain ⟨y0, y1⟩ := cells2 hbox4; clear hbox4 hbw4 hg4)
    | (go_at_call 10; refine (HOF.out w6 HC36.out).mono ?_; rintro e w7 ⟨Ai, ci, Ao, co, I, O, rfl, hsi, hRi, hRo, hb7⟩; have HSI := Lib.hid hsi; have HRI := Lib.hid hRi; have HRO := Lib.hid hRo; have HB7 := Lib.hid hb7; have HK17 := Lib.hid (heap_below HK1.out hb7); clear hsi hRi hRo hb7 z0 z1 z2 z3; obtain ⟨z0, z1, z2, z3⟩ := cells4 HK17.out)
    | fail)
  have hl4 : w7.heap.size ≤ g4 := by rw [HG4.out]; exact Nat.le_refl _
  obtain ⟨w9, hw9⟩ : ∃ w9, w9 = ((w8.setCell ⟨g4, 0, none⟩ (.slice Ai B.length ci)).setCell ⟨g4, 1, none⟩ (.slice Ao B.length co)) := ⟨_, rfl⟩
  rw [← hw9]
  have hb79 : Below w7.heap.size w7 w9 := by rw [hw9]; exact (HBW4.out.setCell (p := ⟨g4, 0, none⟩) hl4 _).setCell (p := ⟨g4, 1, none⟩) hl4 _
  have hk4 : w9.heap[g4]? = some (.cells #[.slice Ai B.length ci, .slice Ao B.length co] 30 (0, 0)) := by rw [hw9]; exact blk_put (blk_put BK4.out 0 _ rfl) 1 _ rfl
  have hb69 := HB7.out.trans (hb79.mono HB7.out.size)
  have hb09 := HB6.out.trans (hb69.mono HB6.out.size)
  have hci : (Kd.slice 3 (Kd.int .i64)).C w9 Ai B.length (lstN I B.length) := by
    obtain ⟨A, c, e, _, hC⟩ := (HRI.out.below hb79).C
    rw [lstN_length] at e hC
    injection e with e1 _ _
    rw [e1]; exact hC
  have hco : (Kd.slice 3 (Kd.int .i64)).C w9 Ao B.length (lstN O B.length) := by
    obtain ⟨A, c, e, _, hC⟩ := (HRO.out.below hb79).C
    rw [lstN_length] at e hC
    injection e with e1 _ _
    rw [e1]; exact hC
  have HCI := Lib.hid hci
  have HCOo := Lib.hid hco
  have HK4 := Lib.hid hk4
  have HK19 := Lib.hid (heap_below HK17.out hb79)
  have HK39 := Lib.hid (heap_below HK3.out hb69)
  have HCC9 := Lib.hid (Kd.C_below HCC6.out hb69)
  have HC39 := Lib.hid (Kd.C_below HC36.out hb69)
  have HC29 := Lib.hid (Kd.C_below HC2.out hb09)
  have HB9 := Lib.hid hb09
  clear hl4 hw9 hb79 hk4 hb69 hb09 hci hco f0 f1 y0 y1 z0 z1 z2 z3 BK4 HBW4 HG4 HB7 HK17 HK1 HK3 HCC6 HC36 HB6 HRI HRO
  obtain ⟨z0, z1, z2, z3⟩ := cells4 HK19.out
  go_upto_region 6 with (first
    | (go_at_call 18; refine (HINF.out w9 HC39.out).mono ?_; rintro e w10 ⟨Al, cl, I2, O2, rfl, hsi2, hCl, hb10⟩; have HSI2 := Lib.hid hsi2; have HCL := Lib.hid hCl; have HB10 := Lib.hid hb10; clear hsi2 hCl hb10 z0 z1 z2 z3)
    | fail)
  obtain ⟨L, hL⟩ : ∃ L, L = (List.range N).map fun r => listN (infN B (visL B O2 B.length) r) := ⟨_, rfl⟩
  have hLl : L.length = N := by rw [hL]; simp
  have hCL : (Kd.slice 3 (Kd.int .i64)).C w10 Al L.length L := by rw [hLl, hL]; exact HCL.out
  have HL := Lib.hid hL
  have HLL := Lib.hid hLl
  have HW10 := Lib.hid (show LvF w nm N A2 ar c2 A3 c3 B Ac cc Ai ci Ao co Al I O L g1 g3 g4 w10 from ⟨heap_below HK19.out HB10.out, heap_below HK39.out HB10.out, heap_below HK4.out HB10.out, Kd.C_below HC29.out HB10.out, Kd.C_below HC39.out HB10.out, Kd.C_below HCC9.out HB10.out, Kd.C_below HCI.out HB10.out, Kd.C_below HCOo.out HB10.out, hCL, HB9.out.trans (HB10.out.mono HB9.out.size)⟩)
  clear hL hLl hCL HK19 HK39 HK4 HC29 HC39 HCC9 HCI HCOo HB9 HB10 HCL
  obtain ⟨z0, z1, z2, z3, _, _, _, _, _, _⟩ := HW10.out.cells
  go_upto_region 7 with (first
    | ((with_reducible refine gate_dst (N := 8) rfl ?_); refine box_event ?hg (N := 8) ?hd (cs := #[.slice none 0 0, .slice none 0 0]) (t := 30) ?hr ?_; (case hd => rfl); (case hg => rfl); (case hr => first | (go_simp; done) | (go_simp; rfl)); intro g8 hg8 w12 hbox8 hbw8; have HBW8 := Lib.hid hbw8; have BK8 := Lib.hid hbox8; have HG8 := Lib.hid hg8; have f0 := blk_frozen hbox8 0; have f1 := blk_frozen hbox8 1; obtain ⟨y0, y1⟩ := cells2 hbox8; clear hbox8 hbw8 hg8)
    | (go_at_call 10; refine (HOF.out w10 HW10.out.cB).mono ?_; rintro e w11 ⟨Bi, di, Bo, do_, I3, O3, rfl, _, hRi, hRo, hb11⟩; have HRI := Lib.hid hRi; have HRO := Lib.hid hRo; have HB11 := Lib.hid hb11; clear hRi hRo hb11 z0 z1 z2 z3)
    | fail)
  have hl8 : w11.heap.size ≤ g8 := by rw [HG8.out]; exact Nat.le_refl _
  obtain ⟨w13, hw13⟩ : ∃ w13, w13 = ((w12.setCell ⟨g8, 0, none⟩ (.slice Bi B.length di)).setCell ⟨g8, 1, none⟩ (.slice Bo B.length do_)) := ⟨_, rfl⟩
  rw [← hw13]
  have hb11 : Below w11.heap.size w11 w13 := by rw [hw13]; exact (HBW8.out.setCell (p := ⟨g8, 0, none⟩) hl8 _).setCell (p := ⟨g8, 1, none⟩) hl8 _
  have hk8 : w13.heap[g8]? = some (.cells #[.slice Bi B.length di, .slice Bo B.length do_] 30 (0, 0)) := by rw [hw13]; exact blk_put (blk_put BK8.out 0 _ rfl) 1 _ rfl
  obtain ⟨xi, hxi⟩ := WRows.of HRI.out
  obtain ⟨xo, hxo⟩ := WRows.of HRO.out
  rw [lstN_length] at hxi hxo
  have HTW := Lib.hid (show TW w10 w10.heap.size g8 B.length Bi di Bo do_ xi xo (fun i => ((lstN I3 B.length).getD i []).length) (fun i => ((lstN O3 B.length).getD i []).length) w13 from ⟨hk8, hxi.below hb11, hxo.below hb11, HB11.out.trans (hb11.mono HB11.out.size)⟩)
  have HLI3 := Lib.hid (show ∀ i, ((lstN I3 B.length).getD i []).length ≤ 1000 from fun i => by
    rcases Nat.lt_or_ge i (lstN I3 B.length).length with h | h
    · rw [List.getD_eq_getElem?_getD, List.getElem?_eq_getElem h]; exact lstN_le _ (List.getElem_mem h)
    · rw [List.getD_eq_getElem?_getD, List.getElem?_eq_none h]; exact Nat.zero_le _)
  have HLO3 := Lib.hid (show ∀ i, ((lstN O3 B.length).getD i []).length ≤ 1000 from fun i => by
    rcases Nat.lt_or_ge i (lstN O3 B.length).length with h | h
    · rw [List.getD_eq_getElem?_getD, List.getElem?_eq_getElem h]; exact lstN_le _ (List.getElem_mem h)
    · rw [List.getD_eq_getElem?_getD, List.getElem?_eq_none h]; exact Nat.zero_le _)
  obtain ⟨li, hli⟩ : ∃ li : Nat → Nat, li = (fun i => ((lstN I3 B.length).getD i []).length) := ⟨_, rfl⟩
  obtain ⟨lo, hlo⟩ : ∃ lo : Nat → Nat, lo = (fun i => ((lstN O3 B.length).getD i []).length) := ⟨_, rfl⟩
  rw [← hli, ← hlo] at HTW
  have HLI := Lib.hid (show ∀ i, li i ≤ 1000 from fun i => by rw [hli]; exact HLI3.out i)
  have HLO := Lib.hid (show ∀ i, lo i ≤ 1000 from fun i => by rw [hlo]; exact HLO3.out i)
  clear hl8 hw13 hb11 hk8 hxi hxo hli hlo HLI3 HLO3 f0 f1 y0 y1 BK8 HBW8 HG8 HB11 HRI HRO
  obtain ⟨y0, y1⟩ := cells2 HTW.out.box
  go_wp2
  go_loopw [46] (fun v wr => ∃ k : Nat, k ≤ B.length ∧ v = .int .i64 k ∧ TW w10 w10.heap.size g8 B.length Bi di Bo do_ xi xo li lo wr) (fun v _ => B.length - (intOf v).toNat)
  case atStart => exact ⟨0, Nat.zero_le _, rfl, HTW.out⟩
  case round =>
    obtain ⟨k, hk, rfl, hT⟩ := hrel
    obtain ⟨wo, rfl⟩ : ∃ wo, wo = wr := ⟨_, rfl⟩
    have HT := Lib.hid hT
    clear y0 y1 hT
    by_cases hlt : k < B.length
    · obtain ⟨ga, L1, d1, hA, hx1, q1⟩ := HT.out.i.at_ hlt
      obtain ⟨gb, L2, d2, hBo, hx2, q2⟩ := HT.out.o.at_ hlt
      subst hA hBo
      have HX1 := Lib.hid hx1
      have HX2 := Lib.hid hx2
      have hli := HLI.out k
      have hlo := HLO.out k
      clear hx1 hx2
      obtain ⟨y0, y1⟩ := cells2 HT.out.box
      go_wp2
      go_loopw [55] (fun v wq => ∃ j : Nat, j ≤ li k ∧ v = .int .i64 j ∧ TW w10 w10.heap.size g8 B.length (some ⟨ga, 0, none⟩) di (some ⟨gb, 0, none⟩) do_ xi xo li lo wq) (fun v _ => li k - (intOf v).toNat)
      case atStart => exact ⟨0, Nat.zero_le _, rfl, HT.out⟩
      case round =>
        obtain ⟨j, hj, rfl, hTq⟩ := hrel
        obtain ⟨wq, rfl⟩ : ∃ wq, wq = wr := ⟨_, rfl⟩
        have HTQ := Lib.hid hTq
        clear y0 y1 q1 q2 hTq
        obtain ⟨y0, y1⟩ := cells2 HTQ.out.box
        obtain ⟨ga', L1', d1', hA', hx1', q1⟩ := HTQ.out.i.at_ hlt
        obtain ⟨gb', L2', d2', hB', hx2', q2⟩ := HTQ.out.o.at_ hlt
        have e1 : ga' = ga := by injection hA' with e; injection e with e; exact e.symm
        have e2 : gb' = gb := by injection hB' with e; injection e with e; exact e.symm
        rw [e1] at q1
        rw [e2] at q2
        rw [HX1.out] at hx1'
        rw [HX2.out] at hx2'
        obtain ⟨rfl, rfl⟩ : L1 = L1' ∧ d1 = d1' := by injection hx1' with a _ c; exact ⟨a, c⟩
        obtain ⟨rfl, rfl⟩ : L2 = L2' ∧ d2 = d2' := by injection hx2' with a _ c; exact ⟨a, c⟩
        clear hA' hB' e1 e2 hx1' hx2'
        by_cases hjl : j < li k
        · obtain ⟨gr, cr, u, hv, hbr, hc, hf, cs, hcs⟩ := (HTQ.out.i.row k hlt).cell hjl
          rw [HX1.out] at hv
          obtain rfl : L1 = some ⟨gr, 0, none⟩ := by injection hv
          have HN := Lib.hid (HTQ.out.set hcs hbr j (.int .i64 (-1)))
          clear hv hcs
          go_wp2
          go_roundw
          case rel => exact ⟨j + 1, by omega, by go_num, HN.out⟩
          case measure => simp [intOf]; omega
        · go_wp2
          go_loopw [72] (fun v wq => ∃ j : Nat, j ≤ lo k ∧ v = .int .i64 j ∧ TW w10 w10.heap.size g8 B.length (some ⟨ga, 0, none⟩) di (some ⟨gb, 0, none⟩) do_ xi xo li lo wq) (fun v _ => lo k - (intOf v).toNat)
          case atStart => exact ⟨0, Nat.zero_le _, rfl, HTQ.out⟩
          case round =>
            obtain ⟨j2, hj2, rfl, hTq⟩ := hrel
            obtain ⟨wp, rfl⟩ : ∃ wp, wp = wr := ⟨_, rfl⟩
            have HTP := Lib.hid hTq
            clear y0 y1 q1 q2 hTq
            obtain ⟨y0, y1⟩ := cells2 HTP.out.box
            obtain ⟨gb', L2', d2', hB', hx2', q2⟩ := HTP.out.o.at_ hlt
            have e2 : gb' = gb := by injection hB' with e; injection e with e; exact e.symm
            rw [e2] at q2
            rw [HX2.out] at hx2'
            obtain ⟨rfl, rfl⟩ : L2 = L2' ∧ d2 = d2' := by injection hx2' with a _ c; exact ⟨a, c⟩
            clear hB' e2 hx2'
            by_cases hjl2 : j2 < lo k
            · obtain ⟨gr, cr, u, hv, hbr, hc, hf, cs, hcs⟩ := (HTP.out.o.row k hlt).cell hjl2
              rw [HX2.out] at hv
              obtain rfl : L2 = some ⟨gr, 0, none⟩ := by injection hv
              have HN := Lib.hid (HTP.out.set hcs hbr j2 (.int .i64 (-1)))
              clear hv hcs
              go_wp2
              go_roundw
              case rel => exact ⟨j2 + 1, by omega, by go_num, HN.out⟩
              case measure => simp [intOf]; omega
            · go_wp2
              go_roundw
              case rel => exact ⟨k + 1, by omega, by go_num, HTP.out⟩
              case measure => simp [intOf]; omega
    · have e : k = B.length := by omega
      subst e
      have HWo := Lib.hid (HW10.out.step HT.out.bel)
      obtain ⟨z0, z1, z2, z3, _, _, _, _, _, _⟩ := HWo.out.cells
      go_upto_region 22 with (first
        | ((with_reducible refine gate_dst (N := 13) rfl ?_); refine box_event ?hg (N := 13) ?hd (cs := #[.slice none 0 0, .slice none 0 0]) (t := 30) ?hr ?_; (case hd => rfl); (case hg => rfl); (case hr => first | (go_simp; done) | (go_simp; rfl)); intro g13 hg13 w16 hbox13 hbw13; have HBW13 := Lib.hid hbw13; have BK13 := Lib.hid hbox13; have HG13 := Lib.hid hg13; have f0 := blk_frozen hbox13 0; have f1 := blk_frozen hbox13 1; obtain ⟨y0, y1⟩ := cells2 hbox13; clear hbox13 hbw13 hg13)
        | (go_at_call 10; refine (HOF.out wo HWo.out.cB).mono ?_; rintro e w15 ⟨A5, c5, B5, d5, I5, O5, rfl, hsi5, hRi, hRo, hb15⟩; have HSI5 := Lib.hid hsi5; have HRI := Lib.hid hRi; have HRO := Lib.hid hRo; have HB15 := Lib.hid hb15; clear hsi5 hRi hRo hb15 z0 z1 z2 z3)
        | fail)
      have hl13 : w15.heap.size ≤ g13 := by rw [HG13.out]; exact Nat.le_refl _
      obtain ⟨w17, hw17⟩ : ∃ w17, w17 = ((w16.setCell ⟨g13, 0, none⟩ (.slice A5 B.length c5)).setCell ⟨g13, 1, none⟩ (.slice B5 B.length d5)) := ⟨_, rfl⟩
      rw [← hw17]
      have hb17 : Below w15.heap.size w15 w17 := by rw [hw17]; exact (HBW13.out.setCell (p := ⟨g13, 0, none⟩) hl13 _).setCell (p := ⟨g13, 1, none⟩) hl13 _
      have hk13 : w17.heap[g13]? = some (.cells #[.slice A5 B.length c5, .slice B5 B.length d5] 30 (0, 0)) := by rw [hw17]; exact blk_put (blk_put BK13.out 0 _ rfl) 1 _ rfl
      have hbo := HB15.out.trans (hb17.mono HB15.out.size)
      have hI5 : lstN I5 B.length = lstN I B.length := lstN_congr fun b hb => (HSI5.out.uniq HF.out HSI.out hb).1
      have hO5 : lstN O5 B.length = lstN O B.length := lstN_congr fun b hb => (HSI5.out.uniq HF.out HSI.out hb).2
      have hci : (Kd.slice 3 (Kd.int .i64)).C w17 A5 B.length (lstN I B.length) := by
        obtain ⟨A, c, e, _, hC⟩ := (HRI.out.below hb17).C
        rw [lstN_length] at e hC
        injection e with e1 _ _
        rw [e1, ← hI5]; exact hC
      have hco : (Kd.slice 3 (Kd.int .i64)).C w17 B5 B.length (lstN O B.length) := by
        obtain ⟨A, c, e, _, hC⟩ := (HRO.out.below hb17).C
        rw [lstN_length] at e hC
        injection e with e1 _ _
        rw [e1, ← hO5]; exact hC
      have HCI := Lib.hid hci
      have HCOo := Lib.hid hco
      have HK13 := Lib.hid hk13
      have HW17 := Lib.hid (HWo.out.step hbo)
      clear hl13 hw17 hb17 hk13 hbo hI5 hO5 hci hco f0 f1 y0 y1 BK13 HBW13 HG13 HB15 HRI HRO HSI5 HT
      obtain ⟨z0, z1, z2, z3, _, _, _, _, _, _⟩ := HW17.out.cells
      go_upto_region 23 with (first
        | (go_at_call 18; refine (HINF.out w17 HW17.out.cB).mono ?_; rintro e w18 ⟨A6, c6, I6, O6, rfl, hsi6, hCl, hb18⟩; have HSI6 := Lib.hid hsi6; have HCL := Lib.hid hCl; have HB18 := Lib.hid hb18; clear hsi6 hCl hb18 z0 z1 z2 z3)
        | fail)
      have hL6 : ((List.range N).map fun r => listN (infN B (visL B O6 B.length) r)) = L := by
        rw [HL.out, visL_congr fun b hb => (HSI6.out.uniq HF.out HSI2.out hb).2]
      have HCL6 := Lib.hid (hL6 ▸ HCL.out)
      have HW18 := Lib.hid (HW17.out.step HB18.out)
      have HK18 := Lib.hid (heap_below HK13.out HB18.out)
      have HEQ := Lib.hid (equal_same nm N A2 A2 c2 c2 ar A3 Ac c3 cc B w18 HW18.out.cA hc2 HW18.out.cA hc2 HW18.out.cB HW18.out.cC hn1 HCO.out)
      have HSA := Lib.hid (fun (W : World) (hb : Below w18.heap.size w18 W) => show Calls Try.prog 32 #[.slice Ai B.length ci, .slice A5 B.length c5] W (fun e w' => e = .returned (.bool true) ∧ Below W.heap.size W w') from by
        have h1 := (HW18.out.step hb).cI
        have h2 := Kd.C_below (Kd.C_below HCI.out HB18.out) hb
        have := same_calls Ai A5 ci c5 (lstN I B.length) W (by rw [lstN_length]; exact h1) (by rw [lstN_length]; exact h2) (by rw [lstN_length]; exact hn1) lstN_le
        rw [lstN_length] at this
        exact this)
      have HSB := Lib.hid (fun (W : World) (hb : Below w18.heap.size w18 W) => show Calls Try.prog 32 #[.slice Ao B.length co, .slice B5 B.length d5] W (fun e w' => e = .returned (.bool true) ∧ Below W.heap.size W w') from by
        have h1 := (HW18.out.step hb).cO
        have h2 := Kd.C_below (Kd.C_below HCOo.out HB18.out) hb
        have := same_calls Ao B5 co d5 (lstN O B.length) W (by rw [lstN_length]; exact h1) (by rw [lstN_length]; exact h2) (by rw [lstN_length]; exact hn1) lstN_le
        rw [lstN_length] at this
        exact this)
      have HSC := Lib.hid (fun (W : World) (hb : Below w18.heap.size w18 W) => show Calls Try.prog 32 #[.slice Al N cl, .slice A6 N c6] W (fun e w' => e = .returned (.bool true) ∧ Below W.heap.size W w') from by
        have h1 := (HW18.out.step hb).cL
        have h2 := Kd.C_below HCL6.out hb
        have := same_calls Al A6 cl c6 L W h1 (by rw [HLL.out]; exact h2) (by rw [HLL.out]; omega) (by rw [HL.out]; intro l hl; obtain ⟨r, _, rfl⟩ := List.mem_map.1 hl; exact Nat.le_trans (listN_le _) (by decide))
        rw [HLL.out] at this
        exact this)
      clear hL6 HCL HSI6 HW17 HK13
      obtain ⟨z0, z1, z2, z3, s0, s1, s2, s3, t0, t1⟩ := HW18.out.cells
      obtain ⟨y0, y1⟩ := cells2 HK18.out
      go_wp2_with (first
        | (go_at_call 34; refine HEQ.out.mono ?_; rintro e w19 ⟨rfl, hb19⟩; have HB19 := Lib.hid hb19; clear z0 z1 z2 z3 s0 s1 s2 s3 t0 t1 y0 y1; obtain ⟨_, _, _, _, _, _, _, _, t0, t1⟩ := (HW18.out.step hb19).cells; obtain ⟨y0, y1⟩ := cells2 (heap_below HK18.out hb19); clear hb19)
        | (go_at_call 32; have hx := HB21.out; clear hx; refine (HSC.out _ HB21.out).mono ?_; rintro e w22 ⟨rfl, hb22⟩; have HB22 := Lib.hid (HB21.out.trans (hb22.mono HB21.out.size)); clear hb22)
        | (go_at_call 32; have hx := HB20.out; clear hx; refine (HSB.out _ HB20.out).mono ?_; rintro e w21 ⟨rfl, hb21⟩; have HB21 := Lib.hid (HB20.out.trans (hb21.mono HB20.out.size)); clear hb21)
        | (go_at_call 32; refine (HSA.out _ HB19.out).mono ?_; rintro e w20 ⟨rfl, hb20⟩; have HB20 := Lib.hid (HB19.out.trans (hb20.mono HB19.out.size)); clear t0 t1 y0 y1; obtain ⟨_, _, _, _, _, _, _, _, t0, t1⟩ := (HW18.out.step HB20.out).cells; obtain ⟨y0, y1⟩ := cells2 (heap_below HK18.out HB20.out); clear hb20)
        | fail)
      go_ret
      exact ⟨rfl, (HW18.out.step HB22.out).bw⟩
theorem LivenessValues_calls (nm : ByteArray) (R : Int) (A2 : Option Addr) (c2 : Nat) (ar : List S107) (A3 : Option Addr) (c3 : Nat) (B : List S43) (w : World) (hC2 : k107.C w A2 ar.length ar) (hc2 : ar.length ≤ c2) (hC3 : k43.C w A3 B.length B) (hc3 : B.length ≤ c3) :
    Calls Try.prog 7 #[.agg #[.string nm, .int .i64 R, .slice A2 ar.length c2, .slice A3 B.length c3]] w fun e w' => e = .returned (.bool true) ∧ Below w.heap.size w w' := by
  obtain ⟨o, ho⟩ : ∃ o, o = formB R B := ⟨_, rfl⟩
  cases o with
  | false => exact LV_no nm R A2 c2 ar A3 c3 B w ho hC2 hc2 hC3 hc3
  | true => exact LV_yes nm R A2 c2 ar A3 c3 B w ho hC2 hc2 hC3 hc3
end Go.Proofs.Ythgodpmahdnnjaa
end
