/- Texts of this claim, joined by a program (part 4); what nothing uses is left out. -/
import Derived.Test.YthgodpmahdnnjaaQb3
import Derived.Deep.LoopGhost
import Derived.StillTailTactics
import Derived.Deep.CutRange
import Derived.Deep.DeepCutAuto
import Derived.Deep.RegionWith
import Derived.Deep.RegionHeld3
import Derived.WalkKit
import Derived.Deep.AppendLies
import Derived.Deep.RegionLaw
set_option linter.unusedVariables false
set_option linter.unusedSimpArgs false
section
namespace Go.Proofs.Ythgodpmahdnnjaa
open Go.RowKit Go.Proofs.YthgodpmahdnnjaaW.PrintWords Go.Proofs.YthgodpmahdnnjaaW.PrintMore Go.Proofs.Ythgodpmahdnnjaa.H
def infT (d : Nat) (X : Nat → Nat) (q : Int) : Nat → Nat := if q = (d : Int) then X else upd (upd X q.toNat (X q.toNat ||| 2 ^ d)) d (X d ||| 2 ^ q.toNat)
def infStep (B : List S43) (X : Nat → Nat) (c : Vis) : Nat → Nat :=
  if (shp ((B.getD c.1 z43).f0.getD c.2.1 z62).f0).1 then (listN c.2.2).foldl (infT ((B.getD c.1 z43).f0.getD c.2.1 z62).f1.toNat) X else X
def infN (B : List S43) (cs : List Vis) : Nat → Nat := cs.foldl (infStep B) fun _ => 0
theorem infN_snoc (B : List S43) (cs : List Vis) (c : Vis) : infN B (cs ++ [c]) = infStep B (infN B cs) c := by simp [infN]
theorem listN_mem {m R : Nat} (hm : m < 2 ^ R) {q : Int} (hq : q ∈ listN m) : 0 ≤ q ∧ q < R := by
  unfold listN at hq
  obtain ⟨r, hr, rfl⟩ := List.mem_map.1 hq
  have hb := (List.mem_filter.1 hr).2
  refine ⟨by omega, ?_⟩
  rcases Nat.lt_or_ge r R with h | h
  · omega
  · rw [Nat.testBit_lt_two_pow (Nat.lt_of_lt_of_le hm (Nat.pow_le_pow_right (by decide) h))] at hb; cases hb
theorem listN_le' (m : Nat) : (listN m).length ≤ 40 := by
  unfold listN
  rw [List.length_map]
  exact Nat.le_trans (List.length_filter_le _ _) (by simp)
theorem getD_get0 {l : List Int} {j : Nat} (hj : j < l.length) : l.getD j 0 = l[j] := by rw [List.getD_eq_getElem?_getD, List.getElem?_eq_getElem hj]; rfl
structure InfJ (N base n₀ gc gs : Nat) (vs : Nat → Value) (X : Nat → Nat) (W : World) : Prop where
  box : W.heap[gc]? = some (.cells #[.slice (some ⟨gs, 0, none⟩) N N] 71 (0, 0))
  tab : W.heap[gs]? = some (.cells (rowF vs N) 75 (0, 0))
  own : ∀ r, r < N → Own1 0 W base (vs r) (rowN N (X r))
  sep : ∀ r r', r < N → r' < N → r ≠ r' → ∀ k, (vs r).ownBlock = some k → (vs r').ownBlock ≠ some k
  lt : ∀ r, r < N → ∀ k, (vs r).ownBlock = some k → k < n₀
  gcl : gc < n₀
  gsl : gs < n₀
  xlt : ∀ r, r < N → X r < 2 ^ N
  sz : n₀ ≤ W.heap.size
section
variable {N base n₀ gc gs : Nat} {vs : Nat → Value} {X : Nat → Nat} {W W' : World}
theorem InfJ.stable (h : InfJ N base n₀ gc gs vs X W) (hb : Below n₀ W W') : InfJ N base n₀ gc gs vs X W' :=
  ⟨(hb.block gc h.gcl).trans h.box, (hb.block gs h.gsl).trans h.tab, fun r hr => (h.own r hr).move fun k hk => hb.block k (h.lt r hr k hk), h.sep, h.lt, h.gcl, h.gsl, h.xlt, Nat.le_trans h.sz hb.size⟩
theorem InfJ.turn {r m : Nat} (h : InfJ N base n₀ gc gs vs X W) (hr : r < N) (hk : Kept W W' (fun k => (vs r).ownBlock = some k)) (ho : Own1 0 W' base (vs r) (rowN N m)) (hm : m < 2 ^ N) : InfJ N base n₀ gc gs vs (upd X r m) W' := by
  have hcell := (h.own r hr).cells
  refine ⟨(hk.2 gc (heap_lt h.box) fun e => ?_).trans h.box, (hk.2 gs (heap_lt h.tab) fun e => ?_).trans h.tab, fun q hq => ?_, h.sep, h.lt, h.gcl, h.gsl, fun q hq => ?_, Nat.le_trans h.sz hk.1⟩
  · obtain ⟨cs, hcs⟩ := hcell gc e; rw [h.box] at hcs; injection hcs with h1; injection h1 with _ h2 _; exact absurd h2 (by decide)
  · obtain ⟨cs, hcs⟩ := hcell gs e; rw [h.tab] at hcs; injection hcs with h1; injection h1 with _ h2 _; exact absurd h2 (by decide)
  · by_cases e : q = r
    · subst e; rw [upd_self]; exact ho
    · rw [upd_ne _ e]; exact (h.own q hq).kept hk fun k hk1 hk2 => h.sep r q hr hq (fun e1 => e e1.symm) k hk2 hk1
  · by_cases e : q = r
    · subst e; rw [upd_self]; exact hm
    · rw [upd_ne _ e]; exact h.xlt q hq
end
set_option maxHeartbeats 4000000 in
set_option maxRecDepth 100000 in
theorem act_calls (R : Nat) (hR : R ≤ 30) (B : List S43) (hF : OkF R B) (w0 : World) (n₀ gc gs : Nat) (vs : Nat → Value) (X : Nat → Nat) (b p m : Nat) (A : Option Addr) (c : Nat) (W : World) (hj : InfJ R w0.heap.size n₀ gc gs vs X W) (hbw : Below w0.heap.size w0 W) (hw0 : w0.heap.size ≤ n₀)
    (hb : b < B.length) (hp : p < (B.getD b z43).f0.length) (hm : m < 2 ^ R) (hc : (rowN R m).length ≤ c)
    (hC : ∀ W', Kept W W' (fun k => k < n₀ ∨ IsArr W k) → Kd.C (Kd.int .u64) W' A (rowN R m).length (rowN R m)) (s : S62) (hs : s = (B.getD b z43).f0.getD p z62) :
    Calls Try.prog 48 #[.int .i64 b, .int .i64 p, .agg #[.int .u8 s.f0, .int .i64 s.f1, .int .i64 s.f2, .int .i64 s.f3, .int .i64 s.f4, .string s.f5], .slice A (rowN R m).length c, .pointer (some ⟨gc, 0, none⟩)] W
      fun e W' => e = .returned (.tuple #[]) ∧ InfJ R w0.heap.size n₀ gc gs vs (infStep B X (b, p, m)) W' ∧ Below w0.heap.size w0 W' ∧ Kept W W' (fun k => k < n₀ ∨ IsArr W k) := by
  have hOk : OkI R s := by
    rw [hs]; exact (hF.b _ (memB hb)).code _ (memI hp)
  have hstep : infStep B X (b, p, m) = if (shp s.f0).1 then (listN m).foldl (infT s.f1.toNat) X else X := by unfold infStep; rw [hs]
  obtain ⟨X', hX'⟩ : ∃ X', X' = infStep B X (b, p, m) := ⟨_, rfl⟩
  rw [← hX']
  rw [← hX'] at hstep
  have HOK := Lib.hid hOk
  have HJ := Lib.hid hj
  have HBW := Lib.hid hbw
  have HC := Lib.hid hC
  have hdef := Defines_f s
  obtain ⟨o, ho⟩ : ∃ o, o = (shp s.f0).1 := ⟨_, rfl⟩
  rw [← ho] at hstep hdef
  have HO := Lib.hid ho
  clear hOk hX' hj hbw hC ho hs
  cases o with
  | false =>
    rw [if_neg (by decide)] at hstep hdef
    subst hstep
    go_enter Try.func48, Try.ntmps48
    go_wp2_with (first
      | ((with_reducible refine gate_dst (N := 7) rfl ?_); refine box_event ?hg (N := 7) ?hd (cs := #[.int .u8 s.f0, .int .i64 s.f1, .int .i64 s.f2, .int .i64 s.f3, .int .i64 s.f4, .string s.f5]) (t := 62) ?hr ?_; (case hd => rfl); (case hg => rfl); (case hr => first | (go_simp; done) | (go_simp; rfl)); intro g hg w3 hbox hbw; have HB3 := Lib.hid hbw; obtain ⟨i0, i1, i2, i3, i4, i5⟩ := cells6 hbox; clear hbox hbw; have HG := Lib.hid hg; clear hg)
      | (go_at_call 26; refine (ir_Defines.calls _ _ _ _ _ _ _ _ _ hdef).mono ?_; rintro e w4 ⟨rfl, hb4⟩; have HB4 := Lib.hid hb4; clear hb4)
      | fail)
    refine bodyPost_ret (results_none rfl _ _ _) rfl ?_
    have hb4 : Below W.heap.size W w4 := HB3.out.trans (HB4.out.mono HB3.out.size)
    exact ⟨rfl, HJ.out.stable (hb4.mono HJ.out.sz), HBW.out.trans (hb4.mono HBW.out.size), Kept.of_below hb4 _⟩
  | true =>
    rw [if_pos rfl] at hstep hdef
    have hd := HOK.out.d HO.out.symm
    obtain ⟨d, hde⟩ : ∃ d : Nat, s.f1 = (d : Int) := ⟨s.f1.toNat, by omega⟩
    have hdR : d < R := by omega
    rw [hde, Int.toNat_natCast] at hstep
    have HDE := Lib.hid hde
    have HST := Lib.hid hstep
    have hmem : ∀ q ∈ listN m, 0 ≤ q ∧ q < R := fun q hq => listN_mem hm hq
    have HMEM := Lib.hid hmem
    have hll := listN_le' m
    have hlist := list_f (k := 70) (R := R) (by omega) hm (Nat.le_refl _)
    have hcall := fun (W1 : World) (hb1 : Below W.heap.size W W1) => liveness_set_list.calls 70 A c (rowN R m) _ W1 (HC.out W1 (Kept.of_below hb1 _)) hc hlist
    have HCALL := Lib.hid hcall
    clear hstep hde hmem hlist hcall hd
    go_enter Try.func48, Try.ntmps48
    go_wp2_with (first
      | ((with_reducible refine gate_dst (N := 7) rfl ?_); refine box_event ?hg (N := 7) ?hd (cs := #[.int .u8 s.f0, .int .i64 s.f1, .int .i64 s.f2, .int .i64 s.f3, .int .i64 s.f4, .string s.f5]) (t := 62) ?hr ?_; (case hd => rfl); (case hg => rfl); (case hr => first | (go_simp; done) | (go_simp; rfl)); intro g hg w3 hbox hbw; have HB3 := Lib.hid hbw; obtain ⟨i0, i1, i2, i3, i4, i5⟩ := cells6 hbox; clear hbox hbw; have HG := Lib.hid hg; clear hg)
      | (go_at_call 26; refine (ir_Defines.calls _ _ _ _ _ _ _ _ _ hdef).mono ?_; rintro e w4 ⟨rfl, hb4⟩; have HB4 := Lib.hid (HB3.out.trans (hb4.mono HB3.out.size)); clear hb4)
      | (go_at_call 37; refine (HCALL.out w4 HB4.out).mono ?_; rintro e w5 ⟨v5, rfl, hR5, hb5⟩; obtain ⟨A5, c5, rfl, hl5, _⟩ := Kd.R_reads hR5; have HR5 := Lib.hid (Own1.of_R0 (t := 3) hR5); have HB5 := Lib.hid (HB4.out.trans (hb5.mono HB4.out.size)); clear hR5 hb5)
      | fail)
    obtain ⟨L, hL⟩ : ∃ L, L = listN m := ⟨_, rfl⟩
    rw [← hL] at HST HMEM hll HR5 hl5 ⊢
    have HJ5 := Lib.hid (HJ.out.stable (HB5.out.mono HJ.out.sz))
    have HK5 := Lib.hid (Kept.of_below HB5.out (fun k => k < n₀ ∨ IsArr W k))
    have HBW5 := Lib.hid (HBW.out.trans (HB5.out.mono HBW.out.size))
    have hw4s : W.heap.size ≤ w4.heap.size := HB4.out.size
    clear hL i0 i1 i2 i3 i4 i5 HCALL HG HB3 hdef HC
    go_loopw [23] (fun v wr => ∃ j : Nat, j ≤ L.length ∧ v = .int .i64 j ∧ InfJ R w0.heap.size n₀ gc gs vs ((L.take j).foldl (infT d) X) wr ∧ Own1 3 wr w4.heap.size (.slice A5 L.length c5) L ∧ Below w0.heap.size w0 wr ∧ Kept W wr (fun k => k < n₀ ∨ IsArr W k)) (fun v _ => L.length - (intOf v).toNat)
    case atStart => exact ⟨0, Nat.zero_le _, rfl, HJ5.out, HR5.out, HBW5.out, HK5.out⟩
    case round =>
      obtain ⟨j, hj, rfl, hJ, hrow, hbw, hk⟩ := hrel
      obtain ⟨wo, rfl⟩ : ∃ wo, wo = wr := ⟨_, rfl⟩
      obtain ⟨_, _, hcS⟩ := Kd.R_reads' (hrow.R0 (t := 3) (ok := fun _ => True) (fun _ _ => trivial))
      have HJo := Lib.hid hJ
      have HROW := Lib.hid hrow
      have HBo := Lib.hid hbw
      have HKo := Lib.hid hk
      clear hJ hrow hbw hk HJ5 HK5 HBW5 HR5
      by_cases hjl : j < L.length
      · obtain ⟨a5, rfl, hq5⟩ := at_ints hcS j hjl
        have hqok := HMEM.out (L.getD j 0) (by rw [getD_get0 hjl]; exact List.getElem_mem hjl)
        obtain ⟨q, hq⟩ : ∃ q : Nat, L.getD j 0 = (q : Int) := ⟨(L.getD j 0).toNat, by omega⟩
        rw [hq] at hq5 hqok
        have hqR : q < R := by omega
        obtain ⟨Y, hY⟩ : ∃ Y, Y = (L.take j).foldl (infT d) X := ⟨_, rfl⟩
        rw [← hY] at HJo
        have hnext : (L.take (j + 1)).foldl (infT d) X = infT d Y (q : Int) := by
          rw [List.take_succ_eq_append_getElem hjl, List.foldl_append, hY, ← getD_get0 hjl, hq]; rfl
        have HNX := Lib.hid hnext
        clear hq hcS hnext hY
        by_cases he : q = d
        · have b1 : ((q : Int) == s.f1) = true := by rw [he, HDE.out]; simp
          have hsame : infT d Y (q : Int) = Y := by unfold infT; rw [if_pos (by rw [he])]
          have HSM := Lib.hid hsame
          clear he hsame
          go_wp2
          go_roundw
          case rel => exact ⟨j + 1, by omega, by go_num, by rw [HNX.out, HSM.out]; exact HJo.out, HROW.out, HBo.out, HKo.out⟩
          case measure => simp [intOf]; omega
        · have b1 : ((q : Int) == s.f1) = false := by rw [HDE.out]; exact beq_eq_false_iff_ne.2 (by omega)
          have hsame : infT d Y (q : Int) = upd (upd Y q (Y q ||| 2 ^ d)) d (Y d ||| 2 ^ q) := by unfold infT; rw [if_neg (by omega), Int.toNat_natCast]
          have HSM := Lib.hid hsame
          have HE := Lib.hid he
          clear he hsame
          have hf1 := add_f (R := R) (m := Y q) (r := d) (by omega) (HJo.out.xlt q hqR) hdR
          rw [← HDE.out] at hf1
          have hcall1 := liveness_set_add.calls (fun k => (vs q).ownBlock = some k) (vs q) (rowN R (Y q)) s.f1 _ w0 wo HBo.out ((HJo.out.own q hqR).R0 (t := 0) (fun _ h => h)) hf1
          have hf2 := add_f (R := R) (m := Y d) (r := q) (by omega) (HJo.out.xlt d hdR) hqR
          have hcall2 := fun (W1 : World) (hb1 : Below w0.heap.size w0 W1) (ho : Own1 0 W1 w0.heap.size (vs d) (rowN R (Y d))) => liveness_set_add.calls (fun k => (vs d).ownBlock = some k) (vs d) (rowN R (Y d)) (q : Int) _ w0 W1 hb1 (ho.R0 (t := 0) (fun _ h => h)) hf2
          have HC1 := Lib.hid hcall1
          have HC2 := Lib.hid hcall2
          have y0 : wo.cell? ⟨gc, 0, none⟩ = some (.slice (some ⟨gs, 0, none⟩) R R) := (blk_cell HJo.out.box 0).trans rfl
          obtain ⟨y1, _⟩ := cell_of_row HJo.out.tab (rowF_get hqR)
          clear hf1 hf2 hcall1 hcall2
          go_upto_region 8 with (first
            | (go_at_call 41; refine HC1.out.mono ?_; rintro e w8 ⟨rfl, hR8, hb8, hk8⟩; have HB8 := Lib.hid hb8; have HK8 := Lib.hid hk8; have HJ8 := Lib.hid (HJo.out.turn hqR hk8 (Own1.of_R0 (t := 0) hR8) (add_lt (HJo.out.xlt q hqR) hdR)); clear hR8 hb8 hk8)
            | fail)
          have ho8 := HJ8.out.own d hdR
          rw [upd_ne _ (fun e => HE.out e.symm)] at ho8
          have HO8 := Lib.hid ho8
          have x0 : w8.cell? ⟨gc, 0, none⟩ = some (.slice (some ⟨gs, 0, none⟩) R R) := (blk_cell HJ8.out.box 0).trans rfl
          obtain ⟨x1, _⟩ := cell_of_row HJ8.out.tab (rowF_get hdR)
          have hdd : (0 : Int) ≤ s.f1 ∧ s.f1 < R ∧ s.f1.toNat = d := by have := HDE.out; omega
          obtain ⟨hd1, hd2, hd3⟩ := hdd
          clear y0 y1 ho8
          go_wp2_with (first
            | (go_at_call 41; refine (HC2.out w8 HB8.out HO8.out).mono ?_; rintro e w9 ⟨rfl, hR9, hb9, hk9⟩; have HB9 := Lib.hid hb9; have HK9 := Lib.hid hk9; have HJ9 := Lib.hid (HJ8.out.turn hdR hk9 (Own1.of_R0 (t := 0) hR9) (add_lt (HJo.out.xlt d hdR) hqR)); clear hR9 hb9 hk9)
            | fail)
          go_roundw
          case rel =>
            have hX : infT d Y (q : Int) = upd (upd Y q (Y q ||| 2 ^ d)) d (Y d ||| 2 ^ q) := HSM.out
            have hlt : ∀ k, (vs q).ownBlock = some k → k < n₀ := HJo.out.lt q hqR
            have hlt2 : ∀ k, (vs d).ownBlock = some k → k < n₀ := HJo.out.lt d hdR
            have hT8 : TyS wo (fun k => (vs q).ownBlock = some k) (fun t => t = 113) := fun k hk _ => by obtain ⟨cs, hcs⟩ := (HJo.out.own q hqR).cells k hk; exact ⟨cs, _, hcs, rfl⟩
            have hT9 : TyS w8 (fun k => (vs d).ownBlock = some k) (fun t => t = 113) := fun k hk _ => by obtain ⟨cs, hcs⟩ := HO8.out.cells k hk; exact ⟨cs, _, hcs, rfl⟩
            refine ⟨j + 1, by omega, by go_num, by rw [HNX.out, hX]; exact HJ9.out, (HROW.out.ty HK8.out hT8 (by decide)).ty HK9.out hT9 (by decide), HB9.out, (HKo.out.then_ HK8.out (fun k hk => .inl (.inl (hlt k hk)))).then_ HK9.out (fun k hk => .inl (.inl (hlt2 k hk)))⟩
          case measure => simp [intOf]; omega
      · have e : j = L.length := by omega
        subst e
        rw [List.take_length, ← HST.out] at HJo
        clear hcS
        go_wp2
        first | go_end0 | (refine bodyPost_ret (results_none rfl _ _ _) rfl ?_)
        exact ⟨rfl, HJo.out, HBo.out, HKo.out⟩
end Go.Proofs.Ythgodpmahdnnjaa
end
section
namespace Go.Proofs.Ythgodpmahdnnjaa
open Go.RowKit Go.Proofs.YthgodpmahdnnjaaW.PrintWords Go.Proofs.YthgodpmahdnnjaaW.PrintMore Go.Proofs.Ythgodpmahdnnjaa.H
attribute [local go_sem] Oper.semAt_some
set_option maxHeartbeats 8000000 in
set_option maxRecDepth 100000 in
theorem visit_calls (nm : ByteArray) (R : Nat) (hR : R ≤ 30) (A2 : Option Addr) (c2 n2 : Nat) (A3 : Option Addr) (c3 : Nat) (B : List S43) (gc : Nat) (w0 w : World) (J : List Vis → World → Prop) (hb0 : Below w0.heap.size w0 w)
    (hC3 : k43.C w0 A3 B.length B) (hc3 : B.length ≤ c3) (hn : B.length ≤ 30) (hcode : ∀ x ∈ B, x.f0.length ≤ 1000) (hF : OkF R B)
    (hact : ActOk R B 48 #[.pointer (some ⟨gc, 0, none⟩)] w0 w.heap.size J) (hJ : J [] w) :
    Calls Try.prog 47 #[.agg #[.string nm, .int .i64 R, .slice A2 n2 c2, .slice A3 B.length c3], .func (.func 48) #[] #[.pointer (some ⟨gc, 0, none⟩)]] w
      fun e w' => ∃ (I O : Nat → Nat), e = .returned (.tuple #[]) ∧ SI R B I O [] ∧ J (visL B O B.length) w' ∧ Below w0.heap.size w0 w' := by
  have hne : 0 < B.length := List.length_pos_iff.2 hF.ne
  have HC3 := Lib.hid hC3
  have HCD := Lib.hid hcode
  have HF := Lib.hid hF
  have HACT := Lib.hid hact
  have HJ0 := Lib.hid hJ
  have HB0 := Lib.hid hb0
  clear hC3 hcode hF hact hJ hb0
  refine calls_of_wp_marks Try.func47 rfl ?_
  simp only [Try.ntmps47, List.size_toArray, List.length_cons, List.length_nil, Nat.reduceAdd, Nat.reduceSub, Array.replicate_succ, Array.replicate_zero, List.push_toArray, List.append_toArray, List.nil_append, List.cons_append]
  go_wp2_with (first
    | ((with_reducible refine gate_dst (N := 2) rfl ?_); refine box_event ?hg (N := 2) ?hd (cs := #[.string nm, .int .i64 R, .slice A2 n2 c2, .slice A3 B.length c3]) (t := 25) ?hr ?_; (case hd => rfl); (case hg => rfl); (case hr => first | (go_simp; done) | (go_simp; rfl)); intro g hg w1 hbox hbw; have BK := Lib.hid hbox; have HBW := Lib.hid hbw; clear hbox hbw; have HG := Lib.hid hg; clear hg)
    | ((with_reducible refine gate_dst (N := 3) rfl ?_); refine box_event ?hg (N := 3) ?hd (cs := #[.func (.func 48) #[] #[.pointer (some ⟨gc, 0, none⟩)]]) (t := 92) ?hr ?_; (case hd => rfl); (case hg => rfl); (case hr => first | (go_simp; done) | (go_simp; rfl)); intro g3 hg3 w3 hbox3 hbw3; have BK3 := Lib.hid hbox3; have HBW3 := Lib.hid hbw3; have BKA := Lib.hid (heap_below BK.out hbw3); clear hbox3 hbw3; obtain ⟨z0, z1, z2, z3⟩ := cells4 BKA.out; have HG3 := Lib.hid hg3; clear hg3)
    | (go_at_call 36; refine (solve_calls nm R hR A2 c2 n2 A3 c3 B _ (Kd.C_below (Kd.C_below (Kd.C_below HC3.out HB0.out) HBW.out) HBW3.out) hc3 hn HCD.out HF.out).mono ?_; rintro e w7 ⟨gi, go_, V, I, O, rfl, hsi, hown, hgi, hgo, hb7, _, hgow3⟩; have HSI := Lib.hid hsi; have HOWN := Lib.hid hown; have HGO := Lib.hid hgo; have HB7 := Lib.hid hb7; have BKB := Lib.hid (heap_below BKA.out hb7); have BKC := Lib.hid (heap_below BK3.out hb7); clear hsi hown hgi hgo hb7 z0 z1 z2 z3; obtain ⟨z0, z1, z2, z3⟩ := cells4 BKB.out)
    | fail)
  have hb03 : Below w.heap.size w w3 := HBW.out.trans (HBW3.out.mono HBW.out.size)
  have hw3 : w.heap.size ≤ w3.heap.size := hb03.size
  have hb07 : Below w.heap.size w w7 := hb03.trans (HB7.out.mono hw3)
  have hg3w : w.heap.size ≤ g3 := by rw [HG3.out]; exact HBW.out.size
  have HB07 := Lib.hid (HB0.out.trans (hb07.mono HB0.out.size))
  have HJ7 := Lib.hid (HACT.out.stable _ _ _ HJ0.out hb07 (fun k ⟨cs, hk⟩ => hb07.block k (heap_lt hk)))
  have HOWN7 := Lib.hid (show ∀ b, b < B.length → Own1 1 w7 w.heap.size (V 1 b) (rowN R (O b)) from fun b hb => (HOWN.out b hb).2.lower hw3)
  have hgow : w.heap.size ≤ go_ := Nat.le_trans hw3 hgow3
  have HSZ7 := Lib.hid hb07.size
  clear z0 z1 z2 z3 BK BK3 BKA BKB HBW HBW3 HG HG3 HB7 hb03 hb07 HOWN
  refine wp_loop_ghost_k (fun k a wr => ∃ (Ds : List Nat) (i : Nat), i ≤ B.length ∧ FrV (.pointer (some ⟨g3, 0, none⟩)) (.slice (some ⟨go_, 0, none⟩) B.length B.length) (.slice A3 B.length c3) (.int .i64 B.length) (.int .i64 i) Ds a ∧ MarksOk wr w.heap.size Ds ∧ wr.heap[g3]? = some (.cells #[.func (.func 48) #[] #[.pointer (some ⟨gc, 0, none⟩)]] 92 (0, 0)) ∧
    wr.heap[go_]? = some (.cells (rowF (V 1) B.length) 75 (0, 0)) ∧ (∀ b, b < B.length → Own1 1 wr w.heap.size (V 1 b) (rowN R (O b))) ∧ J (visL B O i) wr ∧ Below w0.heap.size w0 wr ∧ w.heap.size ≤ wr.heap.size ∧ k = B.length - i) (B.length) ?_ ?_
  · exact ⟨[], 0, Nat.zero_le _, by apply FrV.intro, ⟨List.nodup_nil, by simp⟩, BKC.out, HGO.out, HOWN7.out, HJ7.out, HB07.out, HSZ7.out, rfl⟩
  · intro gk a wr hI JJ K hJJ hK
    clear HB07 HJ7 HOWN7 HSZ7 HGO BKC HJ0
    obtain ⟨Ds, i, hi, ⟨x, rfl⟩, hmk, hbk3, hgo, hown, hj, hbw, hsz, hgk⟩ := hI
    have HMK := Lib.hid hmk
    have HBK3 := Lib.hid hbk3
    have HGO := Lib.hid hgo
    have HOWN := Lib.hid hown
    have HJ := Lib.hid hj
    have HBW := Lib.hid hbw
    have HSZ := Lib.hid hsz
    have HGK := Lib.hid hgk
    have HJJ := Lib.hid hJJ
    clear hmk hbk3 hgo hown hj hbw hsz hgk hJJ
    by_cases hlt : i < B.length
    · obtain ⟨ad, A0, c0, hA3, p0, p1, p2, p3, p4, hl0, hC0⟩ := at_T43 HC3.out (i : Int) (by omega) (by omega)
      subst hA3
      rw [Int.toNat_natCast] at p0 p1 p2 p3 p4
      have hrd : rd_T43 B (i : Int) = B.getD i z43 := by unfold rd_T43; rw [Int.toNat_natCast]
      rw [hrd] at p0 p1 p2 p3 p4 hl0 hC0
      have hmem := memB hlt
      have hOb := HF.out.b _ hmem
      have hcl := HCD.out _ hmem
      obtain ⟨y, hy⟩ : ∃ y, y = B.getD i z43 := ⟨_, rfl⟩
      rw [← hy] at p0 p1 p2 p3 p4 hl0 hC0 hOb hcl
      have q0 := (World.cell?_of_block (HBW.out.block _ (World.block_lt_of_cell? w0 _ p0))).trans p0
      have q1 := (World.cell?_of_block (HBW.out.block _ (World.block_lt_of_cell? w0 _ p1))).trans p1
      have q2 := (World.cell?_of_block (HBW.out.block _ (World.block_lt_of_cell? w0 _ p2))).trans p2
      have q3 := (World.cell?_of_block (HBW.out.block _ (World.block_lt_of_cell? w0 _ p3))).trans p3
      have q4 := (World.cell?_of_block (HBW.out.block _ (World.block_lt_of_cell? w0 _ p4))).trans p4
      have HY := Lib.hid hy
      have HOB := Lib.hid hOb
      have HC0 := Lib.hid hC0
      have HHK := Lib.hid hK
      clear p0 p1 p2 p3 p4 hy hOb hC0 hrd hmem hK
      go_upto_region 5 with (first
        | ((with_reducible refine gate_dst (N := 6) rfl ?_); refine box_event ?hg (N := 6) ?hd (cs := #[.int .i64 0]) (t := 3) ?hr ?_; (case hd => rfl); (case hg => rfl); (case hr => first | (go_simp; done) | (go_simp; rfl)); intro g6 hg6 w6 hbox6 hbw6; have BK6 := Lib.hid hbox6; have HBW6 := Lib.hid hbw6; have HG6 := Lib.hid hg6; clear hbox6 hbw6 hg6)
        | ((with_reducible refine gate_dst (N := 7) rfl ?_); refine box_event ?hg (N := 7) ?hd (cs := #[.slice none 0 0, .int .u8 0, .int .i64 0, .int .i64 0, .int .i64 0]) (t := 43) ?hr ?_; (case hd => rfl); (case hg => rfl); (case hr => first | (go_simp; done) | (go_simp; rfl)); intro g7 hg7 w7b hbox7 hbw7; obtain ⟨y0, y1, y2, y3, y4⟩ := cells5 hbox7; have f0 := blk_frozen hbox7 0; have f1 := blk_frozen hbox7 1; have f2 := blk_frozen hbox7 2; have f3 := blk_frozen hbox7 3; have f4 := blk_frozen hbox7 4; have BK7 := Lib.hid hbox7; have HBW7 := Lib.hid hbw7; have BK6b := Lib.hid (heap_below BK6.out hbw7); have HG7 := Lib.hid hg7; clear hbox7 hbw7 hg7; have n0 : w7b.cell? ⟨g6, 0, none⟩ = some (.int .i64 0) := (blk_cell BK6b.out 0).trans rfl; have fn0 := blk_frozen BK6b.out 0; have hg67 : g6 ≠ g7 := by rw [HG7.out]; have := heap_lt BK6.out; omega)
        | fail)
      obtain ⟨w4, hw4⟩ : ∃ w4, w4 = ((((((w7b.setCell ⟨g6, 0, none⟩ (.int .i64 i)).setCell ⟨g7, 0, none⟩ (.slice A0 y.f0.length c0)).setCell ⟨g7, 1, none⟩ (.int .u8 y.f1)).setCell ⟨g7, 2, none⟩ (.int .i64 y.f2)).setCell ⟨g7, 3, none⟩ (.int .i64 y.f3)).setCell ⟨g7, 4, none⟩ (.int .i64 y.f4)) := ⟨_, rfl⟩
      have hg6e : wr.heap.size ≤ g6 := by rw [HG6.out]; exact Nat.le_refl _
      have hg7e : wr.heap.size ≤ g7 := by rw [HG7.out]; exact HBW6.out.size
      have hb4 : Below wr.heap.size wr w4 := by
        rw [hw4]
        exact ((((((HBW6.out.trans (HBW7.out.mono HBW6.out.size)).setCell (p := ⟨g6, 0, none⟩) hg6e _).setCell (p := ⟨g7, 0, none⟩) hg7e _).setCell (p := ⟨g7, 1, none⟩) hg7e _).setCell (p := ⟨g7, 2, none⟩) hg7e _).setCell (p := ⟨g7, 3, none⟩) hg7e _).setCell (p := ⟨g7, 4, none⟩) hg7e _
      have hk67 : (w7b.setCell ⟨g6, 0, none⟩ (.int .i64 i)).heap[g7]? = _ := (Below.heap_setCell w7b ⟨g6, 0, none⟩ (.int .i64 i) g7 (fun e => hg67 e.symm)).trans BK7.out
      have hk7 : w4.heap[g7]? = some (.cells #[.slice A0 y.f0.length c0, .int .u8 y.f1, .int .i64 y.f2, .int .i64 y.f3, .int .i64 y.f4] 43 (0, 0)) := by rw [hw4]; exact blk_five hk67 _ _ _ _ _
      have hk6 : w4.heap[g6]? = some (.cells #[.int .i64 i] 3 (0, 0)) := by
        rw [hw4]
        have h0 : (w7b.setCell ⟨g6, 0, none⟩ (.int .i64 i)).heap[g6]? = some (.cells #[.int .i64 i] 3 (0, 0)) := blk_put BK6b.out 0 _ rfl
        exact (Below.heap_setCell _ ⟨g7, 4, none⟩ _ g6 hg67).trans ((Below.heap_setCell _ ⟨g7, 3, none⟩ _ g6 hg67).trans ((Below.heap_setCell _ ⟨g7, 2, none⟩ _ g6 hg67).trans ((Below.heap_setCell _ ⟨g7, 1, none⟩ _ g6 hg67).trans ((Below.heap_setCell _ ⟨g7, 0, none⟩ _ g6 hg67).trans h0))))
      rw [← hw4]
      have hg64 : g6 < w4.heap.size := heap_lt hk6
      have hg34 : g3 < w4.heap.size := heap_lt (heap_below HBK3.out hb4)
      have hsz4 : w.heap.size ≤ w4.heap.size := Nat.le_trans HSZ.out hb4.size
      have HB4 := Lib.hid hb4
      have HBW4 := Lib.hid (HBW.out.trans (hb4.mono HBW.out.size))
      have HK7 := Lib.hid hk7
      have HK6 := Lib.hid hk6
      have HK3 := Lib.hid (heap_below HBK3.out hb4)
      have HGO4 := Lib.hid (heap_below HGO.out hb4)
      have HMK4 := Lib.hid (HMK.out.below hb4)
      have HOWN4 := Lib.hid (show ∀ b, b < B.length → Own1 1 w4 w.heap.size (V 1 b) (rowN R (O b)) from fun b hb => (HOWN.out b hb).kept (Kept.of_below hb4 (fun _ => False)) (fun _ _ h => h))
      have HJ4 := Lib.hid (HACT.out.stable _ _ _ HJ.out (hb4.mono HSZ.out) (fun k ⟨cs, hk⟩ => hb4.block k (heap_lt hk)))
      clear hw4 hb4 hk67 hk7 hk6 y0 y1 y2 y3 y4 f0 f1 f2 f3 f4 n0 fn0 q0 q1 q2 q3 q4 BK6 BK7 BK6b HBW6 HBW7 HG6 HG7 HMK HGO HOWN HJ HBK3
      have ho1 := HOWN4.out i hlt
      obtain ⟨A1, c1, e1, hl1, hC1⟩ := Kd.R_reads (ho1.R0 (t := 1) (ok := fun _ => True) (fun _ _ => trivial))
      have hOl := (HSI.out.lt i hlt).2
      have hend := AtEnd_f (R := R) (by omega) HOB.out hOl
      have hcall := fun (W1 : World) (hb1 : Below w4.heap.size w4 W1) => liveness_atEnd.calls A0 c0 y.f0 y.f1 y.f2 y.f3 y.f4 A1 c1 (rowN R (O i)) _ W1 (Kd.C_below (Kd.C_below HC0.out HBW4.out) hb1) hl0 (Kd.C_below hC1 hb1) hl1 hend
      have HCALL := Lib.hid hcall
      obtain ⟨r1, _⟩ := cell_of_row HGO4.out (rowF_get hlt)
      rw [e1] at r1
      have HE1 := Lib.hid e1
      obtain ⟨k0, k1, k2, k3, k4⟩ := cells5 HK7.out
      have n6 : w4.cell? ⟨g6, 0, none⟩ = some (.int .i64 i) := (blk_cell HK6.out 0).trans rfl
      clear ho1 hC1 hl1 hcall hend e1
      go_cut [8] from 20 to 44 (fun v8 wx => ∃ (gb : Nat) (vl : Value), v8 = .pointer (some ⟨gb, 0, none⟩) ∧ Lv w4 wx gb vl (rowN R (endN y (O i))))
      case first =>
        skip
        have hal : Below w4.heap.size w4 (w4.alloc (.cells #[.slice none 0 0] 75)).drew := ((Below.refl w4.heap.size w4).alloc (Nat.le_refl _) _).drew
        obtain ⟨r1a, _⟩ := cell_of_row (heap_below HGO4.out hal) (rowF_get hlt)
        rw [HE1.out] at r1a
        obtain ⟨k0a, k1a, k2a, k3a, k4a⟩ := cells5 (heap_below HK7.out hal)
        have n6a : (w4.alloc (.cells #[.slice none 0 0] 75)).drew.cell? ⟨g6, 0, none⟩ = some (.int .i64 i) := (blk_cell (heap_below HK6.out hal) 0).trans rfl
        have HAL := Lib.hid hal
        clear hal
        go_region_with (first
          | (go_at_call 42; refine (HCALL.out w4.drew (Below.refl _ _).drew).mono ?_; rintro e w8 ⟨v8, rfl, hR8, hb8⟩; obtain ⟨A8, c8, rfl, _, _⟩ := Kd.R_reads hR8; have HR8 := Lib.hid hR8; have HB8 := Lib.hid hb8; clear hR8 hb8)
          | (go_at_call 42; refine (HCALL.out (w4.alloc (.cells #[.slice none 0 0] 75)).drew HAL.out).mono ?_; rintro e w9 ⟨v9, rfl, hR9, hb9⟩; obtain ⟨A9, c9, rfl, _, _⟩ := Kd.R_reads hR9; have hnb : w9.heap[w4.heap.size]? = some (.cells #[.slice none 0 0] 75 (0, 0)) := heap_below (w := (w4.alloc (.cells #[.slice none 0 0] 75)).drew) (World.alloc_heap_new w4 _) hb9; have n0 : w9.cell? ⟨w4.heap.size, 0, none⟩ = some (.slice none 0 0) := (blk_cell hnb 0).trans rfl; have fn0 := blk_frozen hnb 0; have HNB := Lib.hid hnb; clear hnb; have HR9 := Lib.hid hR9; have HB9 := Lib.hid hb9; clear hR9 hb9)
          | fail)
        all_goals
          first
            | (have hX := Lv.new1 (wm := w4) HB8.out (Own1.of_R0 (t := 4) HR8.out)
               have HX := Lib.hid hX
               clear hX
               go_wp2_with fail
               go_meet
               case rel => exact ⟨_, _, rfl, HX.out⟩)
            | (have hX := Lv.new2 (wm := w4) HB9.out HNB.out (Own1.of_R0 (t := 4) HR9.out)
               have HX := Lib.hid hX
               clear hX
               go_wp2_with fail
               go_meet
               case rel => exact ⟨_, _, rfl, HX.out⟩)
      case rest =>
        obtain ⟨gb, vl, rfl, hgb, hgbl, hvl, hbx⟩ := hcut
        obtain ⟨wx, rfl⟩ : ∃ wx, wx = wc := ⟨_, rfl⟩
        have HGB := Lib.hid hgb
        have HVL := Lib.hid hvl
        have HBX := Lib.hid (HBW4.out.trans (hbx.mono HBW4.out.size))
        have HK7x := Lib.hid (heap_below HK7.out hbx)
        have HK6x := Lib.hid (heap_below HK6.out hbx)
        have HK3x := Lib.hid (heap_below HK3.out hbx)
        have HGOx := Lib.hid (heap_below HGO4.out hbx)
        have HMKx := Lib.hid (HMK4.out.below hbx)
        have HOWNx := Lib.hid (show ∀ b, b < B.length → Own1 1 wx w.heap.size (V 1 b) (rowN R (O b)) from fun b hb => (HOWN4.out b hb).kept (Kept.of_below hbx (fun _ => False)) (fun _ _ h => h))
        have hVlt : ∀ b, b < B.length → ∀ k, (V 1 b).ownBlock = some k → k < w4.heap.size := fun b hb k hk => ((HOWN4.out b hb).lt k hk).2
        have HVLT := Lib.hid hVlt
        have HJx := Lib.hid (HACT.out.stable _ _ _ HJ4.out (hbx.mono hsz4) (fun k ⟨cs, hk⟩ => hbx.block k (heap_lt hk)))
        have hszx : w.heap.size ≤ wx.heap.size := Nat.le_trans hsz4 hbx.size
        clear hgb hvl hbx hVlt r1 k0 k1 k2 k3 k4 n6 HCALL HGO4 HMK4 HOWN4 HJ4 HK7 HK6 HK3
        obtain ⟨k0, k1, k2, k3, k4⟩ := cells5 HK7x.out
        have hC9 := (callsIn_wide (n := 0)).1 (back_in Fence.wide 0 trivial rfl A0 y.f0.length c0 wx)
        go_wp2_with (first
          | (go_at_call 43; refine hC9.mono ?_; rintro e wd ⟨rfl, hwd⟩; have HWD := Lib.hid hwd; clear hwd hC9)
          | fail)
        have hcd : Below wx.heap.size wx wd := by rw [HWD.out]; exact (Below.refl _ wx).alloc (Nat.le_refl _) _
        have hszd : wd.heap.size = wx.heap.size + 1 := by rw [HWD.out]; exact alloc_size1 _ _
        have HBS := Lib.hid (show wd.heap[wx.heap.size]? = some (.cells #[.slice A0 y.f0.length c0] 41 (0, 0)) by rw [HWD.out]; exact World.alloc_heap_new wx _)
        have HBWD := Lib.hid (HBX.out.trans (hcd.mono HBX.out.size))
        have HGBd := Lib.hid (heap_below HGB.out hcd)
        have HK6d := Lib.hid (heap_below HK6x.out hcd)
        have HK3d := Lib.hid (heap_below HK3x.out hcd)
        have HGOd := Lib.hid (heap_below HGOx.out hcd)
        have HMKd := Lib.hid (HMKx.out.below hcd)
        have HOWNd := Lib.hid (show ∀ b, b < B.length → Own1 1 wd w.heap.size (V 1 b) (rowN R (O b)) from fun b hb => (HOWNx.out b hb).kept (Kept.of_below hcd (fun _ => False)) (fun _ _ h => h))
        have HVLd := Lib.hid (HVL.out.kept (Kept.of_below hcd (fun _ => False)) (fun _ _ h => h))
        have HJd := Lib.hid (HACT.out.stable _ _ _ HJx.out (hcd.mono hszx) (fun k ⟨cs, hk⟩ => hcd.block k (heap_lt hk)))
        have hm1 : endN y (O i) < 2 ^ R := endN_lt HOB.out hOl
        obtain ⟨m1, hm1e⟩ : ∃ m1, m1 = endN y (O i) := ⟨_, rfl⟩
        rw [← hm1e] at HVLd hm1
        have HM1 := Lib.hid hm1e
        have hcdo : ∀ i ∈ y.f0, OkI R i := HOB.out.code
        have HCDO := Lib.hid hcdo
        have hw0 : w0.heap.size ≤ w.heap.size := HB0.out.size
        have hvll : ∀ k, vl.ownBlock = some k → w4.heap.size ≤ k := fun k hk => (HVLd.out.lt k hk).1
        have HVLL := Lib.hid hvll
        clear hcd hcdo hm1e hvll k0 k1 k2 k3 k4 HGB HVL HK7x HK6x HK3x HGOx HMKx HOWNx HJx
        refine with_act _ ?_
        intro A hA
        refine (wpIn_wide (n := 9)).1 ?_
        refine wpIn_rangeFunc_ownH (F := Fence.wide) (n := 9) rfl (by decide) (gf := 67) (lb := #[.pointer (some ⟨wx.heap.size, 0, none⟩)]) (by rw [hA]; rfl) trivial (enters_of Try.func67 (by kernel_rfl) rfl)
          (back_stops Fence.wide 8 trivial rfl (by decide) wx.heap.size w0 A0 c0 y.f0 HC0.out hcl wd HBWD.out HBS.out) (fun h k => KeepB.trans h k) (keepB_b HBWD.out.size (by omega)) (Below.refl _ _) (fun _ => rfl)
          (fun pre W => (Own1 4 W w4.heap.size vl (rowN R (foldB m1 pre)) ∧ W.heap[gb]? = some (.cells #[vl] 75 (0, 0)) ∧ W.heap[wx.heap.size]? = some (.cells #[.slice A0 y.f0.length c0] 41 (0, 0))) ∧ (Below w0.heap.size w0 W ∧ Kept wd W (VisS wd w.heap.size vl)) ∧ J (visL B O i ++ visP i m1 pre) W) (fun _ _ _ => False)
          (OwnFrom.and (OwnFrom.and (Own.from (own_own1 4 w4.heap.size (fun _ => vl) (fun pre => rowN R (foldB m1 pre))) _) (OwnFrom.and (Own.from (own_cells gb (fun _ => #[vl]) 75) _) (Own.from (own_cells wx.heap.size (fun _ => #[.slice A0 y.f0.length c0]) 41) _))) (OwnFrom.and (OwnFrom.and (ownFrom_below (Nat.le_refl _) HBWD.out.size) (ownFrom_kept (Nat.le_refl _) (fun _ => VisS wd w.heap.size vl))) (HACT.out.own (by omega) (fun pre => visL B O i ++ visP i m1 pre))))
          (fun _ _ _ _ _ hs _ _ => hs) ⟨⟨HVLd.out, HGBd.out, HBS.out⟩, ⟨HBWD.out, Kept.refl _ _⟩, by have := HJd.out; simpa [visP] using this⟩
          (fun x a' W => ∃ Bx, W.heap[Bx]? = some (.cells #[.int .u8 x.1.2.f0, .int .i64 x.1.2.f1, .int .i64 x.1.2.f2, .int .i64 x.1.2.f3, .int .i64 x.1.2.f4, .string x.1.2.f5] 62 (0, 0)) ∧ w.heap.size ≤ Bx ∧
            a' = { tmps := (((A.tmps.setIfInBounds 33 (.int .i64 x.1.1)).setIfInBounds 34 (.agg #[.int .u8 x.1.2.f0, .int .i64 x.1.2.f1, .int .i64 x.1.2.f2, .int .i64 x.1.2.f3, .int .i64 x.1.2.f4, .string x.1.2.f5])).setIfInBounds 9 (.int .i64 x.1.1)).setIfInBounds 10 (.pointer (some ⟨Bx, 0, none⟩)), defers := [] })
          (fun x a' _ X Y row hs hg hr => by obtain ⟨Bx, h1, h2⟩ := hs; exact ⟨Bx, own_cells Bx (fun (_ : Unit) => #[.int .u8 x.1.2.f0, .int .i64 x.1.2.f1, .int .i64 x.1.2.f2, .int .i64 x.1.2.f3, .int .i64 x.1.2.f4, .string x.1.2.f5]) 62 () X Y row h1 hg (fun r e => (hr r e).2), h2⟩)
          ?assign ?body ?done ?stop
        case assign =>
          rintro l pre x W K ⟨⟨h1, h2, h4⟩, ⟨h3, h5⟩, h6⟩ hK
          subst hA
          unfold encB
          gi_wp2
          have hal : Below W.heap.size W (W.alloc (.cells #[.int .u8 x.1.2.f0, .int .i64 x.1.2.f1, .int .i64 x.1.2.f2, .int .i64 x.1.2.f3, .int .i64 x.1.2.f4, .string x.1.2.f5] 62)) := (Below.refl _ W).alloc (Nat.le_refl _) _
          have hszW : w.heap.size ≤ W.heap.size := HACT.out.size _ _ h6
          exact hK _ _ ((KeepsOthers.alloc _ _).from _) ⟨(Below.refl _ W).alloc h3.size _, Below.heap_alloc W _ _ (heap_lt h4)⟩ ⟨⟨h1.kept (Kept.of_below hal (fun _ => False)) (fun _ _ h => h), (Below.heap_alloc W _ _ (heap_lt h2)).trans h2, (Below.heap_alloc W _ _ (heap_lt h4)).trans h4⟩, ⟨h3.alloc h3.size _, h5.alloc _⟩, HACT.out.stable _ _ _ h6 (hal.mono hszW) (fun k ⟨cs, hk⟩ => hal.block k (heap_lt hk))⟩ ⟨W.heap.size, World.alloc_heap_new W _, hszW, rfl⟩
        case body =>
          rintro l pre x a' W _ _ ⟨⟨h1, h2, h4⟩, ⟨h3, h5⟩, h6⟩ ⟨Bx, hbx, hBxl, rfl⟩ _
          subst hA
          obtain ⟨⟨xi, xs⟩, p, hp, hxe⟩ := x
          have hx1 := (Prod.mk.inj hxe).1
          have hx2 := (Prod.mk.inj hxe).2
          subst hx1
          have hszW : w.heap.size ≤ W.heap.size := HACT.out.size _ _ h6
          have hml : foldB m1 pre < 2 ^ R := foldB_lt HCDO.out pre m1 hm1
          have hvn : ∀ k, vl.ownBlock = some k → w.heap.size ≤ k := fun k hk => Nat.le_trans hsz4 (HVLL.out k hk)
          obtain ⟨Av, cv, ev, hlv, _⟩ := Kd.R_reads (h1.R0 (t := 4) (ok := fun k => vl.ownBlock = some k) (fun _ h => h))
          have hC : ∀ W', Kept W W' (fun k => k < w.heap.size ∨ IsArr W k) → Kd.C (Kd.int .u64) W' Av (rowN R (foldB m1 pre)).length (rowN R (foldB m1 pre)) :=
            Kd.C_kept_own (d := Kd.int .u64) (e := 113) (base := w4.heap.size) (ok := fun k => vl.ownBlock = some k) (c := cv) (by rw [← ev]; exact h1.R0 (t := 4) (fun _ h => h)) (fun k hk hs => by
              rcases hs with hs | ⟨cs, hs⟩
              · have := hvn k hk; omega
              · obtain ⟨cs', hcs'⟩ := h1.cells k hk; rw [hs] at hcs'; injection hcs' with h1; injection h1 with _ h2 _; exact absurd h2 (by decide))
          have hact := HACT.out.call (visL B O i ++ visP i m1 pre) i p (foldB m1 pre) Av cv W h6 h3 hszW hlt (by rw [← HY.out]; exact hp) hml hlv hC
          rw [← HY.out, ← hx2] at hact
          have hOs : OkI R xs := by rw [hx2]; exact HCDO.out _ (by rw [List.getD_eq_getElem?_getD, List.getElem?_eq_getElem hp]; simp)
          have HOS := Lib.hid hOs
          clear hOs
          simp only [List.append_toArray, List.cons_append, List.nil_append] at hact
          have hacall := CallsIn.inRound l ((callsIn_wide (n := 9 - 1 - 1 - 1)).2 hact)
          have HACALL := Lib.hid hacall
          obtain ⟨i0, i1, i2, i3, i4, i5⟩ := cells6 hbx
          have n0 : W.cell? ⟨gb, 0, none⟩ = some vl := (blk_cell h2 0).trans rfl
          rw [ev] at n0
          have hg6w : w.heap.size ≤ g6 := Nat.le_trans HSZ.out hg6e
          have hk6 := VisS.blk h5 HK6d.out (by decide) hg6w (fun e => by have h7 := HVLL.out g6 e; have h8 := hg64; omega)
          have hk3 := VisS.blk h5 HK3d.out (by decide) hg3w (fun e => by have h7 := HVLL.out g3 e; have h8 := hg34; omega)
          have n6 : W.cell? ⟨g6, 0, none⟩ = some (.int .i64 i) := (blk_cell hk6 0).trans rfl
          have n3 : W.cell? ⟨g3, 0, none⟩ = some (.func (.func 48) #[] #[.pointer (some ⟨gc, 0, none⟩)]) := (blk_cell hk3 0).trans rfl
          have H1 := Lib.hid h1
          have H2 := Lib.hid h2
          have H3 := Lib.hid h3
          have H4 := Lib.hid h4
          have H5 := Lib.hid h5
          have H6 := Lib.hid h6
          have HBX2 := Lib.hid hbx
          have HEV := Lib.hid ev
          clear hact hacall h1 h2 h3 h4 h5 h6 hbx hC hk6 hk3 ev hx2
          simp only [List.setIfInBounds_toArray, List.set_cons_succ, List.set_cons_zero]
          gi_wp2
          refine ⟨trivial, HACALL.out.mono ?_⟩
          rintro e W1 ⟨rfl, hj1, hb1, hk1⟩
          have hown1 := ActK.own hk1 H1.out (by decide) hsz4
          have hgb1 := ActK.blk hk1 H2.out (by decide) (Nat.le_trans hsz4 hgbl)
          have hbs1 := ActK.blk hk1 H4.out (by decide) hszx
          have hbx1 := ActK.blk hk1 HBX2.out (by decide) hBxl
          have hbef := Before_f (R := R) (by omega) HOS.out hml
          have hcall := CallsIn.inRound l ((callsIn_wide (n := 9 - 1 - 1 - 1)).2 (liveness_before.calls 10 _ _ _ _ _ _ (fun k => vl.ownBlock = some k) vl _ _ w0 W1 hb1 ((hown1.lower (Nat.le_trans hw0 hsz4)).R0 (t := 4) (fun _ h => h)) hbef))
          have HCALL2 := Lib.hid hcall
          clear i0 i1 i2 i3 i4 i5 n0 n6 n3
          obtain ⟨i0, i1, i2, i3, i4, i5⟩ := cells6 hbx1
          have n0 : W1.cell? ⟨gb, 0, none⟩ = some vl := (blk_cell hgb1 0).trans rfl
          have HJ1 := Lib.hid hj1
          have HB1 := Lib.hid hb1
          have HK1 := Lib.hid hk1
          have HO1 := Lib.hid hown1
          have HGB1 := Lib.hid hgb1
          have HBS1 := Lib.hid hbs1
          clear hcall hbef hj1 hb1 hk1 hown1 hgb1 hbs1 hbx1 HACALL
          gi_wp2
          refine ⟨trivial, HCALL2.out.mono ?_⟩
          rintro e W2 ⟨rfl, hR', hB', hK'⟩
          have HR' := Lib.hid hR'
          have HB' := Lib.hid hB'
          have HK' := Lib.hid hK'
          clear hR' hB' hK' i0 i1 i2 i3 i4 i5 n0
          gi_wp2
          have hcells : ∀ k, vl.ownBlock = some k → k < W1.heap.size → ∃ cs t fr, W1.heap[k]? = some (.cells cs t fr) := fun k hk _ => by
            obtain ⟨cs, hcs⟩ := HO1.out.cells k hk; exact ⟨cs, _, _, hcs⟩
          have hne : ∀ k cs t, W1.heap[k]? = some (.cells cs t (0, 0)) → t ≠ te 4 → ¬ vl.ownBlock = some k := fun k cs t hk ht hS => by
            obtain ⟨cs', hcs'⟩ := HO1.out.cells k hS
            rw [hk] at hcs'; cases hcs'; exact ht rfl
          have h2' : W2.heap[gb]? = W1.heap[gb]? := HK'.out.2 gb (heap_lt HGB1.out) (hne _ _ _ HGB1.out (by decide))
          have h4' : W2.heap[wx.heap.size]? = W1.heap[wx.heap.size]? := HK'.out.2 _ (heap_lt HBS1.out) (hne _ _ _ HBS1.out (by decide))
          have hb12 : Below w.heap.size W1 W2 := below_of_kept HB1.out HB'.out HK'.out hvn (Nat.le_trans hszW HK1.out.1)
          have hj2 := HACT.out.stable _ _ _ HJ1.out hb12 (fun k ⟨cs, hk⟩ => HK'.out.2 k (heap_lt hk) (hne _ _ _ hk (by decide)))
          rw [List.append_assoc] at hj2
          refine ⟨(ActK.from_ HK1.out (by omega)).trans (keepsFrom_kept HK'.out hcells), ⟨below_between H3.out HB'.out (Nat.le_trans HK1.out.1 HK'.out.1), h4'.trans (HBS1.out.trans H4.out.symm)⟩, ⟨⟨?_, h2'.trans HGB1.out, h4'.trans HBS1.out⟩, ⟨HB'.out, VisS.bef (VisS.act H5.out HK1.out) HK'.out⟩, ?_⟩⟩
          · rw [foldB_snoc]; exact (Own1.of_R0 (t := 4) HR'.out).raise HVLL.out
          · rw [visP_snoc]; exact hj2
        case done =>
          rintro D ys W hD hys ⟨⟨h1, h2, h4⟩, ⟨h3, h5⟩, h6⟩ hK2
          subst hA
          have hown : ∀ b, b < B.length → Own1 1 W w.heap.size (V 1 b) (rowN R (O b)) := fun b hb => VisS.own h5 (HOWNd.out b hb) (by decide) (fun k hk e => by have h7 := HVLL.out k e; have h8 := HVLT.out b hb k hk; omega)
          have hk3 := VisS.blk h5 HK3d.out (by decide) hg3w (fun e => by have h7 := HVLL.out g3 e; omega)
          have hgo := VisS.blk h5 HGOd.out (by decide) hgow (fun e => by obtain ⟨cs, hcs⟩ := HVLd.out.cells go_ e; rw [HGOd.out] at hcs; injection hcs with h7; injection h7 with _ h8 _; exact absurd h8 (by decide))
          have hmk := (VisS.marks h5 HVLd.out HMKd.out).cons (Nat.le_trans (by omega) hD) hK2 (fun E hE e => by have := heap_lt (HMKd.out.2 E hE).2; omega)
          have hjf : J (visL B O (i + 1)) W := by
            rw [visL_succ, ← HY.out, ← HM1.out, ← visP_all i m1 hys]; exact h6
          have HOWNf := Lib.hid hown
          have HK3f := Lib.hid hk3
          have HGOf := Lib.hid hgo
          have HMKf := Lib.hid hmk
          have HJf := Lib.hid hjf
          have HBf := Lib.hid h3
          have HSf := Lib.hid (HACT.out.size _ _ h6)
          clear h1 h2 h4 h3 h5 h6 hys hown hk3 hgo hmk hjf hK2
          dsimp only
          go_wp2
          refine HHK.out _ _ (Handed.intro (B.length - (i + 1)) (by have := HGK.out; omega) (HJJ.out _ _ _ ⟨D :: Ds, i + 1, by omega, by apply FrV.intro, HMKf.out, HK3f.out, HGOf.out, HOWNf.out, HJf.out, HBf.out, HSf.out, rfl⟩))
        case stop =>
          rintro D c pre W _ _ h _
          exact h.elim
    · have e : i = B.length := by omega
      subst e
      go_wp2
      refine (show retPost Fence.wide 9 Try.prog Try.f47 _ .ret _ _ from ret_marks (base := w.heap.size) HMK.out ?_)
      intro w8 hb8 hk8
      refine ⟨_, results_none rfl _ _ _, I, O, rfl, HSI.out, ?_, HBW.out.trans (hb8.mono HB0.out.size)⟩
      refine HACT.out.stable _ _ _ HJ.out hb8 (fun k ⟨cs, hk⟩ => hk8 k fun D hD e => ?_)
      subst e
      rw [(HMK.out.2 _ hD).2] at hk
      cases hk
end Go.Proofs.Ythgodpmahdnnjaa
end
section
namespace Go.Proofs.Ythgodpmahdnnjaa.Two
section
variable {P : Program} {md : Region.Mode} {ops : Array Oper} {Q : Exit → Act → World → Prop} {S : World → Prop} {g n : Nat}
def wpTwo (P : Program) (md : Region.Mode) (ops : Array Oper) (Q : Exit → Act → World → Prop) (S : World → Prop) (g n : Nat) : Nat → Array Bool → Act → World → Prop
  | 0, listed, a, w => (∀ j ∈ Region.ready md ops listed, n ≤ j) ∧ wpAny P md ops Q g listed a w
  | f + 1, listed, a, w => Region.ready md ops listed ≠ [] ∧ ∀ i ∈ Region.ready md ops listed, wpOp P ops Q i (fun a' w' => S w' ∧ wpTwo P md ops Q S g n f (listed.setIfInBounds i true) a' w') a w
theorem wpAny_of_two : ∀ (f : Nat) (listed : Array Bool) (a : Act) (w : World), wpTwo P md ops Q S g n f listed a w → wpAny P md ops Q (f + g) listed a w
  | 0, _, _, _, h => by rw [Nat.zero_add]; exact h.2
  | f + 1, _, _, _, h => by
    rw [show f + 1 + g = (f + g) + 1 by omega]
    exact ⟨fun h0 => absurd h0 h.1, fun i hi => wpOp_mono (fun a' w' h' => wpAny_of_two f _ a' w' h'.2) (h.2 i hi)⟩
def waitsT (md : Region.Mode) (ops : Array Oper) : Nat → Nat → Nat → Bool
  | 0, j, i => Region.waitsFor md ops j i
  | f + 1, j, i => Region.waitsFor md ops j i || (List.range ops.size).any fun k => Region.waitsFor md ops j k && waitsT md ops f k i
def Closed (md : Region.Mode) (ops : Array Oper) (listed : Array Bool) : Prop := ∀ k ok, listed.getD k false = true → ops[k]? = some ok → ∀ e ∈ ok.after, Region.binds md e = true → listed.getD e.on false = true
def closedB (md : Region.Mode) (ops : Array Oper) (listed : Array Bool) : Bool := (List.range ops.size).all fun k => !(listed.getD k false) || match ops[k]? with
  | none => true
  | some o => o.after.all fun e => !(Region.binds md e) || listed.getD e.on false
theorem closed_of {listed : Array Bool} (h : closedB md ops listed = true) : Closed md ops listed := by
  intro k ok hk hok e he hb
  have h1 := List.all_eq_true.1 h k (List.mem_range.2 (Array.getElem?_eq_some_iff.1 hok).1)
  rw [hok, hk] at h1
  simp only [Bool.not_true, Bool.false_or] at h1
  have h2 := Array.all_eq_true'.1 h1 e he
  rw [hb] at h2
  simpa using h2
theorem waitsT_spec {listed : Array Bool} (hc : Closed md ops listed) : ∀ (f j i : Nat), waitsT md ops f j i = true → (∀ oj, ops[j]? = some oj → ∀ e ∈ oj.after, Region.binds md e = true → listed.getD e.on false = true) → listed.getD i false = true
  | 0, j, i, h, hj => by
    obtain ⟨oj, hoj, e, he, hb, heq⟩ := Region.waitsFor_spec h
    rw [← heq]; exact hj oj hoj e he hb
  | f + 1, j, i, h, hj => by
    unfold waitsT at h
    rw [Bool.or_eq_true] at h
    rcases h with h | h
    · obtain ⟨oj, hoj, e, he, hb, heq⟩ := Region.waitsFor_spec h
      rw [← heq]; exact hj oj hoj e he hb
    · obtain ⟨k, _, hk⟩ := List.any_eq_true.1 h
      rw [Bool.and_eq_true] at hk
      obtain ⟨oj, hoj, e, he, hb, heq⟩ := Region.waitsFor_spec hk.1
      exact waitsT_spec hc f k i hk.2 fun ok hok => hc k ok (heq ▸ hj oj hoj e he hb) hok
def waits (md : Region.Mode) (ops : Array Oper) (n : Nat) : Bool := (List.range ops.size).all fun t => decide (t < n) || (List.range n).all fun i => waitsT md ops 5 t i
theorem waits_spec (h : waits md ops n = true) {t i : Nat} (ht : n ≤ t) (hts : t < ops.size) (hi : i < n) : waitsT md ops 5 t i = true := by
  have h1 := List.all_eq_true.1 h t (List.mem_range.2 hts)
  rw [Bool.or_eq_true, decide_eq_true_eq] at h1
  rcases h1 with h1 | h1
  · omega
  · exact List.all_eq_true.1 h1 i (List.mem_range.2 hi)
theorem closed_set {listed : Array Bool} {j : Nat} (hc : Closed md ops listed) (hj : j ∈ Region.ready md ops listed) : Closed md ops (listed.setIfInBounds j true) := by
  intro k ok hk hok e he hb
  by_cases hkj : j = k
  · subst hkj
    obtain ⟨_, oj, hoj, hall⟩ := mem_ready.1 hj
    obtain rfl : oj = ok := Option.some.inj (hoj.symm.trans hok)
    exact getD_set_true (hall e he hb)
  · rw [getD_set_ne false hkj] at hk
    exact getD_set_true (hc k ok hk hok e he hb)
theorem two_first {i : Nat} {oi : Oper} {v : Value} (hi : ops[i]? = some oi) (hsel : ∀ (j : Nat) (o : Oper) cs b, ops[j]? = some o → o.op ≠ .select cs b)
    (hQ : ∀ c a w, Q (.panic c) (a.put oi.dst v) w → Q (.panic c) a w) (hin : i < n) (hw : waits md ops n = true) :
    ∀ (f : Nat) (listed : Array Bool) (a : Act) (w : World), Closed md ops listed →
      (∀ j oj, ops[j]? = some oj → j ≠ i → listed.getD j true = false → (∀ e ∈ oj.after, Region.binds md e = true → e.on ≠ i) → oi.apart ops oj = true) →
      i ∈ Region.ready md ops listed → YieldsIf P ops S oi v a → S w →
      wpTwo P md ops Q S g n f (listed.setIfInBounds i true) (a.put oi.dst v) w → wpTwo P md ops Q S g n (f + 1) listed a w := by
  have hnot : ∀ (listed : Array Bool) (j : Nat), i ∈ Region.ready md ops listed → j ∈ Region.ready md ops listed → ∀ oj, ops[j]? = some oj → ∀ e ∈ oj.after, Region.binds md e = true → e.on ≠ i := by
    intro listed j hr hj oj hoj e he hb heq
    obtain ⟨_, oj', hoj', hall⟩ := mem_ready.1 hj
    obtain rfl : oj = oj' := Option.some.inj (hoj.symm.trans hoj')
    have h1 := hall e he hb
    have h0 := (mem_ready.1 hr).1
    rw [heq] at h1
    rcases Nat.lt_or_ge i listed.size with h' | h'
    · simp [h'] at h0 h1; rw [h0] at h1; cases h1
    · simp [Array.getElem?_eq_none h'] at h1
  intro f
  induction f with
  | zero =>
    intro listed a w hcl _ hr hy hS H
    refine ⟨fun h => (by rw [h] at hr; cases hr), fun j hj => ?_⟩
    by_cases hji : j = i
    · subst hji; exact hy.wpOp hi hS ⟨hS, H⟩
    · have hnj := H.1 j (ready_mono hj hji)
      obtain ⟨_, oj, hoj, hall⟩ := mem_ready.1 hj
      have h1 := waitsT_spec hcl 5 j i (waits_spec hw hnj (Array.getElem?_eq_some_iff.1 hoj).1 hin) (fun oj' hoj' => by obtain rfl : oj = oj' := Option.some.inj (hoj.symm.trans hoj'); exact hall)
      have h0 := (mem_ready.1 hr).1
      rcases Nat.lt_or_ge i listed.size with h' | h'
      · simp [h'] at h0 h1; rw [h0] at h1; cases h1
      · simp [Array.getElem?_eq_none h'] at h1
  | succ f ih =>
    intro listed a w hcl hfree hr hy hS H
    refine ⟨fun h => (by rw [h] at hr; cases hr), fun j hj => ?_⟩
    by_cases hji : j = i
    · subst hji; exact hy.wpOp hi hS ⟨hS, H⟩
    · have h1 := H.2 j (ready_mono hj hji)
      obtain ⟨hjun, oj, hoj, _⟩ := mem_ready.1 hj
      have h2 := wpOp_putIf hoj (hfree j oj hoj hji hjun (hnot listed j hr hj oj hoj)) (fun cs b => hsel i oi cs b hi) (fun cs b => hsel j oj cs b hoj) hQ hy h1
      have hfree' : ∀ k ok, ops[k]? = some ok → k ≠ i → (listed.setIfInBounds j true).getD k true = false →
          (∀ e ∈ ok.after, Region.binds md e = true → e.on ≠ i) → oi.apart ops ok = true := fun k ok hk hki hun hno => by
        refine hfree k ok hk hki ?_ hno
        by_cases hjk : j = k
        · subst hjk; exact hjun
        · rw [getD_set_ne true hjk] at hun; exact hun
      refine wpOp_mono (fun a' w' h3 => ⟨h3.2.1, ih (listed.setIfInBounds j true) a' w' (closed_set hcl hj) hfree' (ready_mono hr (Ne.symm hji)) h3.1 h3.2.1 ?_⟩) h2
      rw [Array.setIfInBounds_comm _ _ hji]
      exact h3.2.2
theorem take (i : Nat) {oi : Oper} {v : Value} {f : Nat} {listed : Array Bool} {a : Act} {w : World} (hi : ops[i]? = some oi) (hy : YieldsIf P ops S oi v a) (hin : decide (i < n) = true) (hw : waits md ops n = true)
    (hs : Region.noSelect ops = true) (hf : Region.free md ops listed i = true) (hcl : closedB md ops listed = true) (hr : (Region.ready md ops listed).contains i = true)
    (hQ : ∀ c a w, Q (.panic c) (a.put oi.dst v) w → Q (.panic c) a w) (hS : S w)
    (h : wpTwo P md ops Q S g n f (listed.setIfInBounds i true) (a.put oi.dst v) w) : wpTwo P md ops Q S g n (f + 1) listed a w :=
  two_first hi (Region.noSelect_spec hs) hQ (of_decide_eq_true hin) hw f listed a w (closed_of hcl) (Region.free_spec hi hf) (by simpa using hr) hy hS h
theorem step (i : Nat) {o : Oper} {f : Nat} {listed : Array Bool} {a : Act} {w : World} (ho : ops[i]? = some o) (hr : Region.ready md ops listed = [i])
    (h : ∀ K' : Act → World → Prop, Shut (∀ a w, S w → (S w → wpTwo P md ops Q S g n f (listed.setIfInBounds i true) a w) → K' a w) → if Region.wanted o (yielded ops a.tmps) = true then Oper.wp P o a w K' Q else K' (a.put o.dst undef) w) : wpTwo P md ops Q S g n (f + 1) listed a w := by
  refine ⟨by rw [hr]; simp, fun j hj => ?_⟩
  rw [hr] at hj
  obtain rfl : j = i := by simpa using hj
  exact wpOp_step ho (fun K' hK => h K' (fun a w hS hW => hK a w ⟨hS, hW hS⟩))
theorem tail {l : List Oper} (hl : ops.toList.drop n = l) {listed : Array Bool} {a : Act} {w : World} (hg : l.length = g) (hn : (Region.ready md ops listed).all (fun j => decide (n ≤ j)) = true) (hB : Region.seqB md ops g n listed = true) (h : wpList P ops Q l a w) :
    wpTwo P md ops Q S g n 0 listed a w := by
  refine ⟨fun j hj => of_decide_eq_true (List.all_eq_true.1 hn j hj), ?_⟩
  subst hg
  refine wpAny_of_seq l n listed a w (fun j => ?_) hB h
  rw [← hl, List.getElem?_drop, Array.getElem?_toList]
theorem region_two {id : Nat} {a : Act} {w : World} (n g : Nat) (S : World → Prop) (hng : ops.size = n + g) (hm : P.follows .mixedOrders = true) (hS : S w.drew)
    (h : S w.drew → wpTwo P .any ops Q S g n n (Array.replicate ops.size false) a w.drew) : (Code.region id ops true).wp P Q a w := by
  refine wp_region_any hm ?_
  rw [hng]
  have := wpAny_of_two n (Array.replicate ops.size false) a w.drew (h hS)
  rw [hng] at this
  exact this
end
end Go.Proofs.Ythgodpmahdnnjaa.Two
end
section
namespace Go.Proofs.Ythgodpmahdnnjaa
open Go.RowKit Go.Proofs.YthgodpmahdnnjaaW.PrintWords Go.Proofs.YthgodpmahdnnjaaW.PrintMore Go.Proofs.Ythgodpmahdnnjaa.H
def lstN (I : Nat → Nat) (i : Nat) : List (List Int) := (List.range i).map fun b => listN (I b)
theorem lstN_length (I : Nat → Nat) (i : Nat) : (lstN I i).length = i := by simp [lstN]
theorem lstN_succ (I : Nat → Nat) (i : Nat) : lstN I (i + 1) = lstN I i ++ [listN (I i)] := by simp [lstN, List.range_succ]
theorem lstN_get (I : Nat → Nat) {i b : Nat} (h : b < i) : (lstN I i).getD b [] = listN (I b) := by simp [lstN, h]
theorem listN_le (m : Nat) : (listN m).length ≤ 40 := by
  unfold listN
  rw [List.length_map]
  exact Nat.le_trans (List.length_filter_le _ _) (by simp)
structure SolT (n base : Nat) (w : World) (gi go_ : Nat) (V : Nat → Nat → Value) (R : Nat) (I O : Nat → Nat) : Prop where
  hi : w.heap[gi]? = some (.cells (rowF (V 0) n) 75 (0, 0))
  ho : w.heap[go_]? = some (.cells (rowF (V 1) n) 75 (0, 0))
  own : ∀ b, b < n → Own1 0 w base (V 0 b) (rowN R (I b)) ∧ Own1 1 w base (V 1 b) (rowN R (O b))
theorem SolT.ty {n base : Nat} {w w1 : World} {gi go_ : Nat} {V : Nat → Nat → Value} {R : Nat} {I O : Nat → Nat} {S : Nat → Prop} {T : TypeId → Prop} (h : SolT n base w gi go_ V R I O) (hk : Kept w w1 S) (hS : TyS w S T) (h1 : ¬ T 75) (h2 : ¬ T 113) : SolT n base w1 gi go_ V R I O :=
  ⟨blk_ty h.hi hk hS h1, blk_ty h.ho hk hS h1, fun b hb => ⟨(h.own b hb).1.ty hk hS h2, (h.own b hb).2.ty hk hS h2⟩⟩
theorem SolT.below {n base : Nat} {w w1 : World} {gi go_ : Nat} {V : Nat → Nat → Value} {R : Nat} {I O : Nat → Nat} (h : SolT n base w gi go_ V R I O) (hb : Below w.heap.size w w1) : SolT n base w1 gi go_ V R I O :=
  h.ty (S := fun _ => False) (T := fun _ => False) (Kept.of_below hb _) (fun _ hk => hk.elim) (fun h => h) (fun h => h)
structure OfW (n base : Nat) (w0 w : World) (gi go_ g6 g5 : Nat) (V : Nat → Nat → Value) (R : Nat) (I O : Nat → Nat) (sI sO : Value) : Prop where
  sol : SolT n base w gi go_ V R I O
  box : w.heap[g6]? = some (.cells #[sI, sO] 30 (0, 0))
  box5 : w.heap[g5]? = some (.cells #[.slice none 0 0, .slice none 0 0] 30 (0, 0))
  below : Below w0.heap.size w0 w
section
variable {n base : Nat} {w0 w w1 : World} {gi go_ g6 g5 : Nat} {V : Nat → Nat → Value} {R : Nat} {I O : Nat → Nat} {sI sO : Value}
theorem OfW.step (h : OfW n base w0 w gi go_ g6 g5 V R I O sI sO) (hb : Below w.heap.size w w1) : OfW n base w0 w1 gi go_ g6 g5 V R I O sI sO :=
  ⟨h.sol.below hb, heap_below h.box hb, heap_below h.box5 hb, h.below.trans (hb.mono h.below.size)⟩
theorem app_kept {e : TypeId} {v : Value} {k : Nat} {xs : List Value} (h : w.ownsRow base e 1 v k xs) (hg : w.grownBy w1 v.ownBlock) : Kept w w1 (fun k => v.ownBlock = some k) ∧ TyS w (fun k => v.ownBlock = some k) (fun t => t = e) :=
  ⟨Kept.of_grown hg (Kept.refl _ _) (fun k hk => .inl hk), fun k hk _ => by obtain ⟨cs, hcs⟩ := row_cells h k hk; exact ⟨cs, _, hcs, rfl⟩⟩
theorem OfW.app {v : Value} {k : Nat} {xs : List Value} (hb : w0.heap.size ≤ base) (h : OfW n base w0 w gi go_ g6 g5 V R I O sI sO) (ho : w.ownsRow base 39 1 v k xs) (hg : w.grownBy w1 v.ownBlock) : OfW n base w0 w1 gi go_ g6 g5 V R I O sI sO := by
  obtain ⟨hk, hS⟩ := app_kept ho hg
  exact ⟨h.sol.ty hk hS (by decide) (by decide), blk_ty h.box hk hS (by decide), blk_ty h.box5 hk hS (by decide), h.below.grown hg h.below.size (fun j hj => Nat.le_trans hb (ho.lt j hj).1)⟩
theorem OfW.cells (h : OfW n base w0 w gi go_ g6 g5 V R I O sI sO) {i : Nat} (hi : i < n) : w.cell? ⟨gi, i, none⟩ = some (V 0 i) ∧ w.cell? ⟨go_, i, none⟩ = some (V 1 i) ∧ w.cell? ⟨g6, 0, none⟩ = some sI ∧ w.cell? ⟨g6, 1, none⟩ = some sO ∧ w.frozen? ⟨g6, 0, none⟩ = false ∧ w.frozen? ⟨g6, 1, none⟩ = false :=
  ⟨(cell_of_row h.sol.hi (rowF_get hi)).1, (cell_of_row h.sol.ho (rowF_get hi)).1, (cells2 h.box).1, (cells2 h.box).2, blk_frozen h.box 0, blk_frozen h.box 1⟩
theorem OfW.list0 (h : OfW n base w0 w gi go_ g6 g5 V R I O sI sO) {i : Nat} (hi : i < n) (hR : R ≤ 40) (hm : I i < 2 ^ R) {A : Option Addr} {c : Nat} (e : V 0 i = .slice A (rowN R (I i)).length c) :
    Calls Try.prog 37 #[.slice A (rowN R (I i)).length c] w fun e w' => ∃ v0_ : Value, e = .returned (v0_) ∧ Kd.R (Kd.int .i64) 3 w' w.heap.size (fun _ => True) v0_ (listN (I i)) ∧ Below w.heap.size w w' := by
  have h1 := (h.sol.own i hi).1
  rw [e] at h1
  obtain ⟨_, hl, hC⟩ := Kd.R_reads' (h1.R0 (t := 0) (ok := fun _ => True) (fun _ _ => trivial))
  exact liveness_set_list.calls 70 A c (rowN R (I i)) _ w hC hl (list_f hR hm (Nat.le_refl _))
theorem OfW.list1 (h : OfW n base w0 w gi go_ g6 g5 V R I O sI sO) {i : Nat} (hi : i < n) (hR : R ≤ 40) (hm : O i < 2 ^ R) {A : Option Addr} {c : Nat} (e : V 1 i = .slice A (rowN R (O i)).length c) :
    Calls Try.prog 37 #[.slice A (rowN R (O i)).length c] w fun e w' => ∃ v0_ : Value, e = .returned (v0_) ∧ Kd.R (Kd.int .i64) 3 w' w.heap.size (fun _ => True) v0_ (listN (O i)) ∧ Below w.heap.size w w' := by
  have h1 := (h.sol.own i hi).2
  rw [e] at h1
  obtain ⟨_, hl, hC⟩ := Kd.R_reads' (h1.R0 (t := 1) (ok := fun _ => True) (fun _ _ => trivial))
  exact liveness_set_list.calls 70 A c (rowN R (O i)) _ w hC hl (list_f hR hm (Nat.le_refl _))
theorem step_rows {ops : Array Oper} {o : Oper} {a : Act} {K : Act → World → Prop} {Q : Exit → Act → World → Prop} {E : Prop} {w8 : World} {i : Nat} {xs : List Value} (v x : Value) (hgd : o.guard = none) (s y : Operand)
    (ho : o.op = .call { callee := .builtin .append, args := #[s, y], argTypes := #[28, 28] }) (hs : a.eval s = v) (hx : a.eval y = .slice (some ⟨w8.heap.size, 0, none⟩) 1 1)
    (hown : w8.ownsRow base 39 1 v i xs) (h1 : x.oneCell' = true) (hi : i ≤ 1000) (hb : base ≤ w8.heap.size)
    (h : ∀ g cap w', w'.ownsRow base 39 1 (.slice (some ⟨g, 0, none⟩) (i + 1) cap) (i + 1) (xs ++ [x]) → w8.grownBy w' v.ownBlock → (v.ownBlock = some g ∨ w8.heap.size ≤ g) → K (a.put o.dst (.slice (some ⟨g, 0, none⟩) (i + 1) cap)) w') :
    if Region.wanted o (yielded ops a.tmps) = true then Oper.wp Try.prog o a (w8.alloc (.cells #[x] 39)) K Q else E := by
  obtain ⟨i0, hi0, hz0, hz1, hz2⟩ := info_parts (show (Try.prog.info? 39).map (fun i => (i.zero, i.size, i.bytes)) = some (some (.slice none 0 0), 1, 24) by kernel_rfl)
  have hsz : (w8.alloc (.cells #[x] 39)).heap.size = w8.heap.size + 1 := alloc_size1 _ _
  refine step_append_lies _ hgd s y 28 ho base 39 i0 (.slice none 0 0) 1 24 Try.underlying28 hi0 hz0 hz1 hz2 rfl (by decide) v i xs hs (hown.alloc _) ⟨w8.heap.size, 0, none⟩ 1 1 [x] hx rfl
    (World.news_of_block (cs := #[x]) (World.alloc_heap_new w8 _)) (fun u hu => by rw [List.mem_singleton.1 hu]; exact h1) (by decide) (by simp [maxLen]; omega) (by omega) (by omega) _ rfl ?_
  intro g cap w' ho' hg' hat _
  refine h g cap w' ho' ⟨hg'.os, hg'.tape, hg'.output, by have := hg'.size; omega, fun k hk hne => (hg'.block k (by omega) hne).trans (Below.heap_alloc w8 _ k hk)⟩ ?_
  rcases hat with hat | hat
  · exact .inl hat
  · right; rw [hat, hsz]; omega
theorem rows_in {w w1 : World} {v : Value} {i : Nat} {xs : List Value} (h : w.ownsRow base 39 1 v i xs) (hb : Below w.heap.size w w1) : w1.ownsRow base 39 1 v i xs := own_move h fun k hk => hb.block k (h.lt k hk).2
theorem of_leaf {wo w8 w9 w10 w11 : World} {i g9 c9 g11 c11 : Nat} {xsI xsO : List Value} {r8 r10 : Value} (hg5w : w0.heap.size ≤ g6) (hne : g5 ≠ g6) (hbw : w0.heap.size ≤ base)
    (hxl : xsI.length = i) (hyl : xsO.length = i) (hoI : wo.ownsRow base 39 1 sI i xsI) (hoO : wo.ownsRow base 39 1 sO i xsO)
    (hxI : ∀ j, j < i → Own1 3 wo base (xsI.getD j undef) ((lstN I i).getD j [])) (hxO : ∀ j, j < i → Own1 3 wo base (xsO.getD j undef) ((lstN O i).getD j [])) (hbase : base ≤ wo.heap.size)
    (hsep : ∀ k, sI.ownBlock = some k → sO.ownBlock ≠ some k) (hb8 : Below wo.heap.size wo w8) (hr8 : Own1 3 w8 wo.heap.size r8 (listN (I i)))
    (hg9 : w8.grownBy w9 sI.ownBlock) (ho9 : w9.ownsRow base 39 1 (.slice (some ⟨g9, 0, none⟩) (i + 1) c9) (i + 1) (xsI ++ [r8])) (ha9 : sI.ownBlock = some g9 ∨ w8.heap.size ≤ g9)
    (hb10 : Below w9.heap.size w9 w10) (hr10 : Own1 3 w10 w9.heap.size r10 (listN (O i)))
    (hg11 : w10.grownBy w11 sO.ownBlock) (ho11 : w11.ownsRow base 39 1 (.slice (some ⟨g11, 0, none⟩) (i + 1) c11) (i + 1) (xsO ++ [r10])) (ha11 : sO.ownBlock = some g11 ∨ w10.heap.size ≤ g11)
    (hW11 : OfW n base w0 w11 gi go_ g6 g5 V R I O sI sO) :
    OfW n base w0 ((w11.setCell ⟨g6, 0, none⟩ (.slice (some ⟨g9, 0, none⟩) (i + 1) c9)).setCell ⟨g6, 1, none⟩ (.slice (some ⟨g11, 0, none⟩) (i + 1) c11)) gi go_ g6 g5 V R I O (.slice (some ⟨g9, 0, none⟩) (i + 1) c9) (.slice (some ⟨g11, 0, none⟩) (i + 1) c11) ∧
    RowsOf ((w11.setCell ⟨g6, 0, none⟩ (.slice (some ⟨g9, 0, none⟩) (i + 1) c9)).setCell ⟨g6, 1, none⟩ (.slice (some ⟨g11, 0, none⟩) (i + 1) c11)) base (.slice (some ⟨g9, 0, none⟩) (i + 1) c9) (lstN I (i + 1)) ∧
    RowsOf ((w11.setCell ⟨g6, 0, none⟩ (.slice (some ⟨g9, 0, none⟩) (i + 1) c9)).setCell ⟨g6, 1, none⟩ (.slice (some ⟨g11, 0, none⟩) (i + 1) c11)) base (.slice (some ⟨g11, 0, none⟩) (i + 1) c11) (lstN O (i + 1)) ∧
    (∀ k, (Value.slice (some ⟨g9, 0, none⟩) (i + 1) c9).ownBlock = some k → (Value.slice (some ⟨g11, 0, none⟩) (i + 1) c11).ownBlock ≠ some k) := by
  have hlO := hoO.lt
  have hlI := hoI.lt
  have hs8 := hb8.size
  have hs9 := hg9.size
  have hs10 := hb10.size
  have hoI8 := rows_in hoI hb8
  have hxI8 : ∀ j, j < (lstN I i).length → Own1 3 w8 base (xsI.getD j undef) ((lstN I i).getD j []) := fun j hj => (hxI j (by rwa [lstN_length] at hj)).kept (Kept.of_below hb8 (fun _ => False)) (fun _ _ h => h)
  have hR9 : RowsOf w9 base (.slice (some ⟨g9, 0, none⟩) (i + 1) c9) (lstN I (i + 1)) := by
    rw [lstN_succ]
    exact RowsOf.snoc (by rw [lstN_length]; exact hxl) (by rw [lstN_length]; exact hoI8) hxI8 (hr8.lower hbase) hg9 (by rw [lstN_length]; exact ho9)
  have hR10 := hR9.below hb10
  have hg9O : ¬ sO.ownBlock = some g9 := fun e => by
    rcases ha9 with h | h
    · exact hsep g9 h e
    · have := hlO g9 e; omega
  obtain ⟨hk9, hS9⟩ := app_kept hoI8 hg9
  have hoO9 : w9.ownsRow base 39 1 sO i xsO := own_move (rows_in hoO hb8) fun k hk => hg9.block k (by have := hlO k hk; omega) (fun e => hsep k e.symm hk)
  have hoO10 := rows_in hoO9 hb10
  have hxO10 : ∀ j, j < (lstN O i).length → Own1 3 w10 base (xsO.getD j undef) ((lstN O i).getD j []) := fun j hj =>
    (((hxO j (by rwa [lstN_length] at hj)).kept (Kept.of_below hb8 (fun _ => False)) (fun _ _ h => h)).ty hk9 hS9 (by decide)).kept (Kept.of_below hb10 (fun _ => False)) (fun _ _ h => h)
  have hR11 : RowsOf w11 base (.slice (some ⟨g11, 0, none⟩) (i + 1) c11) (lstN O (i + 1)) := by
    rw [lstN_succ]
    exact RowsOf.snoc (by rw [lstN_length]; exact hyl) (by rw [lstN_length]; exact hoO10) hxO10 (hr10.lower (by omega)) hg11 (by rw [lstN_length]; exact ho11)
  obtain ⟨hk11, hS11⟩ := app_kept hoO10 hg11
  have hRI11 : RowsOf w11 base (.slice (some ⟨g9, 0, none⟩) (i + 1) c9) (lstN I (i + 1)) := hR10.ty hk11 hS11 (by decide) (fun k hk => by simp [Value.ownBlock] at hk; subst hk; exact hg9O)
  have hl9 : g9 < w9.heap.size := (hR9.lt g9 rfl).2
  have hkf : Kept w11 ((w11.setCell ⟨g6, 0, none⟩ (.slice (some ⟨g9, 0, none⟩) (i + 1) c9)).setCell ⟨g6, 1, none⟩ (.slice (some ⟨g11, 0, none⟩) (i + 1) c11)) (fun k => k = g6) :=
    (kept_set (S := fun k => k = g6) rfl 0 _).then_ (kept_set (S := fun k => k = g6) rfl 1 _) (fun k hk => .inl hk)
  have hSf : TyS w11 (fun k => k = g6) (fun t => t = 30) := fun k hk _ => by subst hk; exact ⟨_, _, hW11.box, rfl⟩
  have hnb : ∀ {v : Value} {ls : List (List Int)}, RowsOf w11 base v ls → ∀ k, v.ownBlock = some k → ¬ k = g6 := fun h k hk e => by
    subst e
    obtain ⟨cs, hcs⟩ := h.cells _ hk
    rw [hW11.box] at hcs
    injection hcs with h1
    injection h1 with _ h2 _
    exact absurd h2 (by decide)
  refine ⟨⟨hW11.sol.ty hkf hSf (by decide) (by decide), blk_put (blk_put hW11.box 0 _ rfl) 1 _ rfl, (hkf.2 g5 (heap_lt hW11.box5) hne).trans hW11.box5, (hW11.below.setCell (p := ⟨g6, 0, none⟩) hg5w _).setCell (p := ⟨g6, 1, none⟩) hg5w _⟩, hRI11.ty hkf hSf (by decide) (hnb hRI11), hR11.ty hkf hSf (by decide) (hnb hR11), fun k hk => ?_⟩
  simp [Value.ownBlock] at hk ⊢
  subst hk
  rcases ha11 with h | h
  · exact fun e => hg9O (by rw [h, e])
  · omega
end
set_option maxHeartbeats 8000000 in
set_option maxRecDepth 100000 in
theorem Of_calls (nm : ByteArray) (R : Int) (hR : R ≤ 30) (A2 : Option Addr) (c2 n2 : Nat) (A3 : Option Addr) (c3 : Nat) (B : List S43) (w : World)
    (hC3 : k43.C w A3 B.length B) (hc3 : B.length ≤ c3) (hn : B.length ≤ 30) (hcode : ∀ x ∈ B, x.f0.length ≤ 1000) :
    Calls Try.prog 10 #[.agg #[.string nm, .int .i64 R, .slice A2 n2 c2, .slice A3 B.length c3]] w
      fun e w' => ((wfB R B = false ∧ e = .returned (.tuple #[.agg #[.slice none 0 0, .slice none 0 0], .int .i64 3])) ∨
        (∃ (N : Nat) (vi vo : Value) (I O : Nat → Nat), R = N ∧ OkF N B ∧ e = .returned (.tuple #[.agg #[vi, vo], .int .i64 0]) ∧ SI N B I O [] ∧ RowsOf w' w.heap.size vi (lstN I B.length) ∧ RowsOf w' w.heap.size vo (lstN O B.length))) ∧ Below w.heap.size w w' := by
  have hn1 : B.length ≤ 1000 := by omega
  have HC3 := Lib.hid hC3
  have HCD := Lib.hid hcode
  clear hC3 hcode
  obtain ⟨o, ho⟩ : ∃ o, o = wfB R B := ⟨_, rfl⟩
  rw [← ho]
  have HO := Lib.hid ho
  clear ho
  cases o with
  | false =>
    go_enter Try.func10, Try.ntmps10
    go_wp2_with (first
      | ((with_reducible refine gate_dst (N := 1) rfl ?_); refine box_event ?hg (N := 1) ?hd (cs := #[.string nm, .int .i64 R, .slice A2 n2 c2, .slice A3 B.length c3]) (t := 25) ?hr ?_; (case hd => rfl); (case hg => rfl); (case hr => first | (go_simp; done) | (go_simp; rfl)); intro g hg w3 hbox hbw; have BK := Lib.hid hbox; have HBW := Lib.hid hbw; clear hbox hbw; have HG := Lib.hid hg; clear hg)
      | ((with_reducible refine gate_dst (N := 2) rfl ?_); refine box_event ?hg (N := 2) ?hd (cs := #[.slice none 0 0, .slice none 0 0]) (t := 30) ?hr ?_; (case hd => rfl); (case hg => rfl); (case hr => first | (go_simp; done) | (go_simp; rfl)); intro g5 hg5 w5 hbox5 hbw5; have BK5 := Lib.hid hbox5; have HBW5 := Lib.hid hbw5; have BKA := Lib.hid (heap_below BK.out hbw5); clear hbox5 hbw5; obtain ⟨z0, z1, z2, z3⟩ := cells4 BKA.out; have HG5 := Lib.hid hg5; clear hg5)
      | (go_at_call 35; refine (wf_calls nm R A2 c2 n2 A3 c3 B _ (Kd.C_below (Kd.C_below HC3.out HBW.out) HBW5.out) hc3 hn1 HCD.out).mono ?_; rw [← HO.out]; rintro e w6 ⟨rfl, hb6⟩; have HB6 := Lib.hid hb6; have BKC := Lib.hid (heap_below BK5.out hb6); clear hb6 z0 z1 z2 z3; obtain ⟨y0, y1⟩ := cells2 BKC.out; have f0 := blk_frozen BKC.out 0; have f1 := blk_frozen BKC.out 1)
      | fail)
    have hg5l : w.heap.size ≤ g5 := by rw [HG5.out]; exact HBW.out.size
    have hb06 : Below w.heap.size w w6 := HBW.out.trans ((HBW5.out.trans (HB6.out.mono HBW5.out.size)).mono HBW.out.size)
    have hk : ((w6.setCell ⟨g5, 0, none⟩ (.slice none 0 0)).setCell ⟨g5, 1, none⟩ (.slice none 0 0)).heap[g5]? = some (.cells #[.slice none 0 0, .slice none 0 0] 30 (0, 0)) := blk_put (blk_put BKC.out 0 _ rfl) 1 _ rfl
    have HX := Lib.hid ((hb06.setCell (p := ⟨g5, 0, none⟩) hg5l (.slice none 0 0)).setCell (p := ⟨g5, 1, none⟩) hg5l (.slice none 0 0))
    obtain ⟨wz, hwz⟩ : ∃ wz, wz = ((w6.setCell ⟨g5, 0, none⟩ (.slice none 0 0)).setCell ⟨g5, 1, none⟩ (.slice none 0 0)) := ⟨_, rfl⟩
    rw [← hwz] at hk HX ⊢
    clear hwz y0 y1 f0 f1
    obtain ⟨y0, y1⟩ := cells2 hk
    (try simp only [Exit.inBlock, Exit.then])
    refine bodyPost_ret (v := .tuple #[.agg #[.slice none 0 0, .slice none 0 0], .int .i64 3]) ?hr rfl ?_
    case hr =>
      unfold results
      rw [show Try.f10.results = #[.cell 2 30, .tmp 3] from rfl]
      simp
      go_simp
    exact ⟨.inl ⟨trivial, rfl⟩, HX.out⟩
  | true =>
    obtain ⟨N, rfl, hN, hF⟩ := (wfB_iff R B).1 HO.out.symm
    have HF := Lib.hid hF
    have hNR : N ≤ 30 := by omega
    clear hF
    go_enter Try.func10, Try.ntmps10
    go_upto_region 6 with (first
      | ((with_reducible refine gate_dst (N := 1) rfl ?_); refine box_event ?hg (N := 1) ?hd (cs := #[.string nm, .int .i64 N, .slice A2 n2 c2, .slice A3 B.length c3]) (t := 25) ?hr ?_; (case hd => rfl); (case hg => rfl); (case hr => first | (go_simp; done) | (go_simp; rfl)); intro g hg w3 hbox hbw; have BK := Lib.hid hbox; have HBW := Lib.hid hbw; clear hbox hbw; have HG := Lib.hid hg; clear hg)
      | ((with_reducible refine gate_dst (N := 2) rfl ?_); refine box_event ?hg (N := 2) ?hd (cs := #[.slice none 0 0, .slice none 0 0]) (t := 30) ?hr ?_; (case hd => rfl); (case hg => rfl); (case hr => first | (go_simp; done) | (go_simp; rfl)); intro g5 hg5 w5 hbox5 hbw5; have BK5 := Lib.hid hbox5; have HBW5 := Lib.hid hbw5; have BKA := Lib.hid (heap_below BK.out hbw5); clear hbox5 hbw5; obtain ⟨z0, z1, z2, z3⟩ := cells4 BKA.out; have HG5 := Lib.hid hg5; clear hg5)
      | (go_at_call 35; refine (wf_calls nm N A2 c2 n2 A3 c3 B _ (Kd.C_below (Kd.C_below HC3.out HBW.out) HBW5.out) hc3 hn1 HCD.out).mono ?_; rw [← HO.out]; rintro e w6 ⟨rfl, hb6⟩; have HB6 := Lib.hid hb6; have BKB := Lib.hid (heap_below BKA.out hb6); have BKC := Lib.hid (heap_below BK5.out hb6); clear hb6 z0 z1 z2 z3; obtain ⟨z0, z1, z2, z3⟩ := cells4 BKB.out)
      | (go_at_call 36; refine (solve_calls nm N hNR A2 c2 n2 A3 c3 B _ (Kd.C_below (Kd.C_below (Kd.C_below HC3.out HBW.out) HBW5.out) HB6.out) hc3 hn HCD.out HF.out).mono ?_; rintro e w7 ⟨gi, go_, V, I, O, rfl, hsi, hown, hgi, hgo, hb7, _, _⟩; have HSI := Lib.hid hsi; have HOWN := Lib.hid hown; have HGI := Lib.hid hgi; have HGO := Lib.hid hgo; have HB7 := Lib.hid hb7; clear hsi hown hgi hgo hb7 z0 z1 z2 z3)
      | ((with_reducible refine gate_dst (N := 6) rfl ?_); refine box_event ?hg (N := 6) ?hd (cs := #[.slice none 0 0, .slice none 0 0]) (t := 30) ?hr ?_; (case hd => rfl); (case hg => rfl); (case hr => first | (go_simp; done) | (go_simp; rfl)); intro g6 hg6 w8 hbox6 hbw6; have BK6 := Lib.hid hbox6; have HBW6 := Lib.hid hbw6; have HG6 := Lib.hid hg6; clear hbox6 hbw6 hg6)
      | fail)
    have h07 : w.heap.size ≤ w6.heap.size := (HBW.out.trans ((HBW5.out.trans (HB6.out.mono HBW5.out.size)).mono HBW.out.size)).size
    have hw5 : w.heap.size ≤ w5.heap.size := (HBW.out.trans (HBW5.out.mono HBW.out.size)).size
    have hb08 : Below w.heap.size w w8 := (HBW.out.trans ((HBW5.out.trans (HB6.out.mono HBW5.out.size)).mono HBW.out.size)).trans ((HB7.out.trans (HBW6.out.mono HB7.out.size)).mono h07)
    have hW0 : OfW B.length w.heap.size w w8 gi go_ g6 g5 V N I O (.slice none 0 0) (.slice none 0 0) :=
      ⟨SolT.below ⟨HGI.out, HGO.out, fun b hb => ⟨(HOWN.out b hb).1.lower h07, (HOWN.out b hb).2.lower h07⟩⟩ HBW6.out, BK6.out, heap_below (heap_below BKC.out HB7.out) HBW6.out, hb08⟩
    have HW0 := Lib.hid hW0
    have hg6w : w.heap.size ≤ g6 := by rw [HG6.out]; exact Nat.le_trans h07 HB7.out.size
    have hg5w : w.heap.size ≤ g5 := by rw [HG5.out]; exact HBW.out.size
    have hg56 : g5 ≠ g6 := by
      have := heap_lt (heap_below BKC.out HB7.out); rw [HG6.out]; omega
    clear hW0 hb08 h07 hw5 HG HG5 HG6 BK BKA BKB BKC BK5 BK6 HBW HBW5 HBW6 HB6 HB7 HGI HGO HOWN
    have HI := Lib.hid (show (Try.prog.info? 39).map (fun i => (i.zero, i.size, i.bytes)) = some (some (.slice none 0 0), 1, 24) by kernel_rfl)
    go_loopg [19] (B.length) (fun k v19 wr => ∃ (i : Nat) (sI sO : Value), i ≤ B.length ∧ k = B.length - i ∧ v19 = .int .i64 i ∧ OfW B.length w.heap.size w wr gi go_ g6 g5 V N I O sI sO ∧ RowsOf wr w.heap.size sI (lstN I i) ∧ RowsOf wr w.heap.size sO (lstN O i) ∧ (∀ k, sI.ownBlock = some k → sO.ownBlock ≠ some k))
    case atStart => exact ⟨0, _, _, Nat.zero_le _, rfl, rfl, HW0.out, RowsOf.nil _ _, RowsOf.nil _ _, fun k hk => by cases hk⟩
    case round =>
      obtain ⟨i, sI, sO, hi, rfl, rfl, hW, hRI, hRO, hsep⟩ := hrel
      obtain ⟨wo, rfl⟩ : ∃ wo, wo = wr := ⟨_, rfl⟩
      have HW := Lib.hid hW
      have HRI := Lib.hid hRI
      have HRO := Lib.hid hRO
      have HSEP := Lib.hid hsep
      clear hW hRI hRO hsep HW0
      by_cases hlt : i < B.length
      · obtain ⟨i0, hi0, hz0, hz1, hz2⟩ := info_parts HI.out
        have HI0 := Lib.hid hi0
        have HZ0 := Lib.hid hz0
        have HZ1 := Lib.hid hz1
        have HZ2 := Lib.hid hz2
        obtain ⟨xsI, hxl, hownI, hxI⟩ := HRI.out
        obtain ⟨xsO, hyl, hownO, hxO⟩ := HRO.out
        rw [lstN_length] at hxl hownI hxI hyl hownO hxO
        have HOWNI := Lib.hid hownI
        have HOWNO := Lib.hid hownO
        have HXI := Lib.hid hxI
        have HXO := Lib.hid hxO
        obtain ⟨Ai, ci, ei, _, _⟩ := Kd.R_reads ((HW.out.sol.own i hlt).1.R0 (t := 0) (ok := fun _ => True) (fun _ _ => trivial))
        obtain ⟨Ao, co, eo, _, _⟩ := Kd.R_reads ((HW.out.sol.own i hlt).2.R0 (t := 1) (ok := fun _ => True) (fun _ _ => trivial))
        have HEI := Lib.hid ei
        have HEO := Lib.hid eo
        have hlI := (HSI.out.lt i hlt).1
        have hlO := (HSI.out.lt i hlt).2
        clear hi0 hz0 hz1 hz2 hownI hownO hxI hxO ei eo
        obtain ⟨q1, q2, y0, y1, fy0, fy1⟩ := HW.out.cells hlt
        rw [HEI.out] at q1
        rw [HEO.out] at q2
        go_upto_region 8 with fail
        have hb : w.heap.size ≤ wo.heap.size := HW.out.below.size
        have hli : i ≤ 1000 := by omega
        have hN40 : N ≤ 40 := by omega
        refine Two.region_two 19 3 (fun w' => w'.cell? ⟨gi, i, none⟩ = some (.slice Ai (rowN N (I i)).length ci) ∧ w'.cell? ⟨go_, i, none⟩ = some (.slice Ao (rowN N (O i)).length co) ∧ w'.cell? ⟨g6, 0, none⟩ = some sI ∧ w'.cell? ⟨g6, 1, none⟩ = some sO) rfl (by kernel_rfl) (⟨by assumption, by assumption, by assumption, by assumption⟩) (fun hHeld => ?_)
        refine Two.take (v := ?_) 0 rfl (Or.inl ⟨by rfl, ?_⟩) rfl (by kernel_rfl) (by kernel_rfl) (by kernel_rfl) (by kernel_rfl) (by kernel_rfl) (fun _ _ _ h => h) (by assumption) ?_
        rotate_left
        · intro w' hSw
          try dsimp only at hSw
          go_simp
          try with_reducible rfl
        try simp only [Act.put, List.setIfInBounds_toArray, List.set_cons_zero, List.set_cons_succ]
        refine Two.take (v := ?_) 1 rfl (Or.inl ⟨by rfl, ?_⟩) rfl (by kernel_rfl) (by kernel_rfl) (by kernel_rfl) (by kernel_rfl) (by kernel_rfl) (fun _ _ _ h => h) (by assumption) ?_
        rotate_left
        · intro w' hSw
          try dsimp only at hSw
          go_simp
          try with_reducible rfl
        try simp only [Act.put, List.setIfInBounds_toArray, List.set_cons_zero, List.set_cons_succ]
        refine Two.take (v := ?_) 2 rfl (Or.inl ⟨by rfl, ?_⟩) rfl (by kernel_rfl) (by kernel_rfl) (by kernel_rfl) (by kernel_rfl) (by kernel_rfl) (fun _ _ _ h => h) (by assumption) ?_
        rotate_left
        · intro w' hSw
          try dsimp only at hSw
          go_simp
          try with_reducible rfl
        try simp only [Act.put, List.setIfInBounds_toArray, List.set_cons_zero, List.set_cons_succ]
        refine Two.take (v := ?_) 3 rfl (Or.inl ⟨by rfl, ?_⟩) rfl (by kernel_rfl) (by kernel_rfl) (by kernel_rfl) (by kernel_rfl) (by kernel_rfl) (fun _ _ _ h => h) (by assumption) ?_
        rotate_left
        · intro w' hSw
          try dsimp only at hSw
          go_simp
          try with_reducible rfl
        try simp only [Act.put, List.setIfInBounds_toArray, List.set_cons_zero, List.set_cons_succ]
        refine Two.take (v := ?_) 4 rfl (Or.inl ⟨by rfl, ?_⟩) rfl (by kernel_rfl) (by kernel_rfl) (by kernel_rfl) (by kernel_rfl) (by kernel_rfl) (fun _ _ _ h => h) (by assumption) ?_
        rotate_left
        · intro w' hSw
          try dsimp only at hSw
          go_simp
          try with_reducible rfl
        try simp only [Act.put, List.setIfInBounds_toArray, List.set_cons_zero, List.set_cons_succ]
        refine Two.take (v := ?_) 5 rfl (Or.inl ⟨by rfl, ?_⟩) rfl (by kernel_rfl) (by kernel_rfl) (by kernel_rfl) (by kernel_rfl) (by kernel_rfl) (fun _ _ _ h => h) (by assumption) ?_
        rotate_left
        · intro w' hSw
          try dsimp only at hSw
          go_simp
          try with_reducible rfl
        try simp only [Act.put, List.setIfInBounds_toArray, List.set_cons_zero, List.set_cons_succ]
        refine Two.take (v := ?_) 9 rfl (Or.inl ⟨by rfl, ?_⟩) rfl (by kernel_rfl) (by kernel_rfl) (by kernel_rfl) (by kernel_rfl) (by kernel_rfl) (fun _ _ _ h => h) (by assumption) ?_
        rotate_left
        · intro w' hSw
          try dsimp only at hSw
          go_simp
          try with_reducible rfl
        try simp only [Act.put, List.setIfInBounds_toArray, List.set_cons_zero, List.set_cons_succ]
        refine Two.take (v := ?_) 10 rfl (Or.inl ⟨by rfl, ?_⟩) rfl (by kernel_rfl) (by kernel_rfl) (by kernel_rfl) (by kernel_rfl) (by kernel_rfl) (fun _ _ _ h => h) (by assumption) ?_
        rotate_left
        · intro w' hSw
          try dsimp only at hSw
          go_simp
          try with_reducible rfl
        try simp only [Act.put, List.setIfInBounds_toArray, List.set_cons_zero, List.set_cons_succ]
        refine Two.take (v := ?_) 11 rfl (Or.inl ⟨by rfl, ?_⟩) rfl (by kernel_rfl) (by kernel_rfl) (by kernel_rfl) (by kernel_rfl) (by kernel_rfl) (fun _ _ _ h => h) (by assumption) ?_
        rotate_left
        · intro w' hSw
          try dsimp only at hSw
          go_simp
          try with_reducible rfl
        try simp only [Act.put, List.setIfInBounds_toArray, List.set_cons_zero, List.set_cons_succ]
        refine Two.take (v := ?_) 12 rfl (Or.inl ⟨by rfl, ?_⟩) rfl (by kernel_rfl) (by kernel_rfl) (by kernel_rfl) (by kernel_rfl) (by kernel_rfl) (fun _ _ _ h => h) (by assumption) ?_
        rotate_left
        · intro w' hSw
          try dsimp only at hSw
          go_simp
          try with_reducible rfl
        try simp only [Act.put, List.setIfInBounds_toArray, List.set_cons_zero, List.set_cons_succ]
        refine Two.take (v := ?_) 13 rfl (Or.inl ⟨by rfl, ?_⟩) rfl (by kernel_rfl) (by kernel_rfl) (by kernel_rfl) (by kernel_rfl) (by kernel_rfl) (fun _ _ _ h => h) (by assumption) ?_
        rotate_left
        · intro w' hSw
          try dsimp only at hSw
          go_simp
          try with_reducible rfl
        try simp only [Act.put, List.setIfInBounds_toArray, List.set_cons_zero, List.set_cons_succ]
        refine Two.take (v := ?_) 14 rfl (Or.inl ⟨by rfl, ?_⟩) rfl (by kernel_rfl) (by kernel_rfl) (by kernel_rfl) (by kernel_rfl) (by kernel_rfl) (fun _ _ _ h => h) (by assumption) ?_
        rotate_left
        · intro w' hSw
          try dsimp only at hSw
          go_simp
          try with_reducible rfl
        try simp only [Act.put, List.setIfInBounds_toArray, List.set_cons_zero, List.set_cons_succ]
        refine Two.step 6 rfl (by kernel_rfl) (fun K hK => ?_)
        go_simp
        go_at_call 37
        refine (OfW.list0 (HW.out.step (Below.refl _ _).drew) hlt hN40 hlI HEI.out).mono ?_
        rintro e w8 ⟨v8, rfl, hR8, hb8⟩
        have hb8' := (Below.refl wo.heap.size wo).drew.trans hb8
        obtain ⟨A8, c8, rfl⟩ := Kd.R_slice hR8
        have HR8 := Lib.hid (Own1.of_R0 (t := 3) hR8)
        have HB8 := Lib.hid hb8'
        have HW8 := Lib.hid (HW.out.step hb8')
        have HO8 := Lib.hid (own_move HOWNI.out (fun k hk => hb8'.block k (HOWNI.out.lt k hk).2))
        clear hR8 hb8 hb8'
        obtain ⟨p1, p2, p3, p4, _, _⟩ := HW8.out.cells hlt
        rw [HEI.out] at p1
        rw [HEO.out] at p2
        have HW8a := Lib.hid (HW8.out.step ((Below.refl _ w8).alloc (Nat.le_refl _) (.cells #[.slice A8 (listN (I i)).length c8] 39)))
        obtain ⟨r1, r2, r3, r4, _, _⟩ := HW8a.out.cells hlt
        rw [HEI.out] at r1
        rw [HEO.out] at r2
        go_wp2_with fail
        refine hK.out _ _ (⟨by assumption, by assumption, by assumption, by assumption⟩) (fun hHeld => ?_)
        clear hK K
        try simp only [Act.put, List.setIfInBounds_toArray, List.set_cons_zero, List.set_cons_succ]
        refine Two.step 7 rfl (by kernel_rfl) (fun K hK => ?_)
        go_simp
        refine hK.out _ _ (⟨by assumption, by assumption, by assumption, by assumption⟩) (fun hHeld => ?_)
        clear hK K
        try simp only [Act.put, List.setIfInBounds_toArray, List.set_cons_zero, List.set_cons_succ]
        refine Two.step 8 rfl (by kernel_rfl) (fun K hK => ?_)
        refine step_rows sI (.slice A8 (listN (I i)).length c8) rfl _ _ rfl rfl rfl HO8.out rfl hli (Nat.le_trans hb HB8.out.size) ?_
        intro g9 c9 w9 hown9 hg9 hat9
        have HW9 := Lib.hid (HW8.out.app (Nat.le_refl _) HO8.out hg9)
        have HO9 := Lib.hid hown9
        have HG9 := Lib.hid hg9
        have HA9 := Lib.hid hat9
        clear hown9 hg9 hat9
        obtain ⟨s1, s2, s3, s4, _, _⟩ := HW9.out.cells hlt
        rw [HEI.out] at s1
        rw [HEO.out] at s2
        refine hK.out _ _ (⟨by assumption, by assumption, by assumption, by assumption⟩) (fun hHeld => ?_)
        clear hK K
        try simp only [Act.put, List.setIfInBounds_toArray, List.set_cons_zero, List.set_cons_succ]
        refine Two.take (v := ?_) 18 rfl (Or.inl ⟨by rfl, ?_⟩) rfl (by kernel_rfl) (by kernel_rfl) (by kernel_rfl) (by kernel_rfl) (by kernel_rfl) (fun _ _ _ h => h) (by assumption) ?_
        rotate_left
        · intro w' hSw
          try dsimp only at hSw
          go_simp
          try with_reducible rfl
        try simp only [Act.put, List.setIfInBounds_toArray, List.set_cons_zero, List.set_cons_succ]
        refine Two.step 15 rfl (by kernel_rfl) (fun K hK => ?_)
        go_simp
        go_at_call 37
        refine (OfW.list1 HW9.out hlt hN40 hlO HEO.out).mono ?_
        rintro e w10 ⟨v10, rfl, hR10, hb10⟩
        obtain ⟨A10, c10, rfl⟩ := Kd.R_slice hR10
        have HR10 := Lib.hid (Own1.of_R0 (t := 3) hR10)
        have HB10 := Lib.hid hb10
        have HW10 := Lib.hid (HW9.out.step hb10)
        have HO10 := Lib.hid (rows_in (own_move (rows_in HOWNO.out HB8.out) fun k hk => HG9.out.block k (Nat.lt_of_lt_of_le (HOWNO.out.lt k hk).2 HB8.out.size) (fun e => HSEP.out k e.symm hk)) hb10)
        clear hR10 hb10
        obtain ⟨t1, t2, t3, t4, _, _⟩ := HW10.out.cells hlt
        rw [HEI.out] at t1
        rw [HEO.out] at t2
        have HW10a := Lib.hid (HW10.out.step ((Below.refl _ w10).alloc (Nat.le_refl _) (.cells #[.slice A10 (listN (O i)).length c10] 39)))
        obtain ⟨n1, n2, n3, n4, _, _⟩ := HW10a.out.cells hlt
        rw [HEI.out] at n1
        rw [HEO.out] at n2
        go_wp2_with fail
        refine hK.out _ _ (⟨by assumption, by assumption, by assumption, by assumption⟩) (fun hHeld => ?_)
        clear hK K
        try simp only [Act.put, List.setIfInBounds_toArray, List.set_cons_zero, List.set_cons_succ]
        refine Two.step 16 rfl (by kernel_rfl) (fun K hK => ?_)
        go_simp
        refine hK.out _ _ (⟨by assumption, by assumption, by assumption, by assumption⟩) (fun hHeld => ?_)
        clear hK K
        try simp only [Act.put, List.setIfInBounds_toArray, List.set_cons_zero, List.set_cons_succ]
        refine Two.step 17 rfl (by kernel_rfl) (fun K hK => ?_)
        refine step_rows sO (.slice A10 (listN (O i)).length c10) rfl _ _ rfl rfl rfl HO10.out rfl hli HW10.out.below.size ?_
        intro g11 c11 w11 hown11 hg11 hat11
        have HW11 := Lib.hid (HW10.out.app (Nat.le_refl _) HO10.out hg11)
        have HO11 := Lib.hid hown11
        have HG11 := Lib.hid hg11
        have HA11 := Lib.hid hat11
        clear hown11 hg11 hat11
        obtain ⟨m1, m2, m3, m4, fm3, fm4⟩ := HW11.out.cells hlt
        rw [HEI.out] at m1
        rw [HEO.out] at m2
        refine hK.out _ _ (⟨by assumption, by assumption, by assumption, by assumption⟩) (fun hHeld => ?_)
        clear hK K
        try simp only [Act.put, List.setIfInBounds_toArray, List.set_cons_zero, List.set_cons_succ]
        refine Two.tail rfl rfl (by kernel_rfl) (by kernel_rfl) ?_
        have hX := of_leaf hg6w hg56 (Nat.le_refl _) hxl hyl HOWNI.out HOWNO.out HXI.out HXO.out hb HSEP.out HB8.out HR8.out HG9.out HO9.out HA9.out HB10.out HR10.out HG11.out HO11.out HA11.out HW11.out
        have HX := Lib.hid hX
        clear hX
        go_wp2_with fail
        go_roundg (B.length - (i + 1))
        case rel => exact ⟨i + 1, _, _, by omega, rfl, by go_num, HX.out.1, HX.out.2.1, HX.out.2.2.1, HX.out.2.2.2⟩
        case measure => omega
      · have e : i = B.length := by omega
        subst e
        obtain ⟨A1, c1, e1, _, _⟩ := HRI.out.C
        obtain ⟨A2', c2', e2, _, _⟩ := HRO.out.C
        subst e1 e2
        obtain ⟨y0, y1⟩ := cells2 HW.out.box
        obtain ⟨x0, x1⟩ := cells2 HW.out.box5
        have fx0 := blk_frozen HW.out.box5 0
        have fx1 := blk_frozen HW.out.box5 1
        go_wp2
        have hk : ((wo.setCell ⟨g5, 0, none⟩ (.slice A1 (lstN I B.length).length c1)).setCell ⟨g5, 1, none⟩ (.slice A2' (lstN O B.length).length c2')).heap[g5]? = some (.cells #[.slice A1 (lstN I B.length).length c1, .slice A2' (lstN O B.length).length c2'] 30 (0, 0)) := blk_put (blk_put HW.out.box5 0 _ rfl) 1 _ rfl
        have hkf : Kept wo ((wo.setCell ⟨g5, 0, none⟩ (.slice A1 (lstN I B.length).length c1)).setCell ⟨g5, 1, none⟩ (.slice A2' (lstN O B.length).length c2')) (fun k => k = g5) :=
          (kept_set (S := fun k => k = g5) rfl 0 _).then_ (kept_set (S := fun k => k = g5) rfl 1 _) (fun k hk => .inl hk)
        have hSf : TyS wo (fun k => k = g5) (fun t => t = 30) := fun k hk _ => by subst hk; exact ⟨_, _, HW.out.box5, rfl⟩
        have hnb : ∀ {v : Value} {ls : List (List Int)}, RowsOf wo w.heap.size v ls → ∀ k, v.ownBlock = some k → ¬ k = g5 := fun h k hkk e => by
          subst e
          obtain ⟨cs, hcs⟩ := h.cells _ hkk
          rw [HW.out.box5] at hcs
          injection hcs with h1
          injection h1 with _ h2 _
          exact absurd h2 (by decide)
        have HX1 := Lib.hid (HRI.out.ty hkf hSf (by decide) (hnb HRI.out))
        have HX2 := Lib.hid (HRO.out.ty hkf hSf (by decide) (hnb HRO.out))
        have HXB := Lib.hid ((HW.out.below.setCell (p := ⟨g5, 0, none⟩) hg5w (.slice A1 (lstN I B.length).length c1)).setCell (p := ⟨g5, 1, none⟩) hg5w (.slice A2' (lstN O B.length).length c2'))
        obtain ⟨wz, hwz⟩ : ∃ wz, wz = ((wo.setCell ⟨g5, 0, none⟩ (.slice A1 (lstN I B.length).length c1)).setCell ⟨g5, 1, none⟩ (.slice A2' (lstN O B.length).length c2')) := ⟨_, rfl⟩
        rw [← hwz] at hk HX1 HX2 HXB ⊢
        clear hwz y0 y1 x0 x1 fx0 fx1 hkf hSf hnb
        obtain ⟨x0, x1⟩ := cells2 hk
        (try simp only [Exit.inBlock, Exit.then])
        refine bodyPost_ret (v := .tuple #[.agg #[.slice A1 (lstN I B.length).length c1, .slice A2' (lstN O B.length).length c2'], .int .i64 0]) ?hr rfl ?_
        case hr =>
          unfold results
          rw [show Try.f10.results = #[.cell 2 30, .tmp 3] from rfl]
          simp
          go_simp
        exact ⟨.inr ⟨N, _, _, I, O, rfl, HF.out, rfl, HSI.out, HX1.out, HX2.out⟩, HXB.out⟩
end Go.Proofs.Ythgodpmahdnnjaa
end
section
namespace Go.Proofs.Ythgodpmahdnnjaa
open Go.RowKit Go.Proofs.YthgodpmahdnnjaaW.PrintWords Go.Proofs.YthgodpmahdnnjaaW.PrintMore Go.Proofs.Ythgodpmahdnnjaa.H
theorem act_ok {R : Nat} (hR : R ≤ 30) {B : List S43} (hF : OkF R B) (w0 : World) {n₀ : Nat} (gc gs : Nat) (vs : Nat → Value) (hw : w0.heap.size ≤ n₀) :
    ActOk R B 48 #[.pointer (some ⟨gc, 0, none⟩)] w0 n₀ (fun cs W => InfJ R w0.heap.size n₀ gc gs vs (infN B cs) W) := by
  refine ⟨fun pre W h => h.sz, fun pre W W' h hb _ => h.stable hb, fun pre b p m A c W hj hbw _ hb hp hm hc hC => ?_⟩
  have := act_calls R hR B hF w0 n₀ gc gs vs (infN B pre) b p m A c W hj hbw hw hb hp hm hc hC _ rfl
  rw [← infN_snoc] at this
  simpa only [List.append_toArray, List.cons_append, List.nil_append] using this
theorem rowsOf_rowF {w : World} {s0 g N : Nat} {f : Nat → Value} {ls : Nat → List Int} (h : w.heap[g]? = some (.cells (rowF f N) 39 (0, 0))) (hg : s0 ≤ g) (hN : N ≤ 1000) (ho : ∀ r, r < N → Own1 3 w s0 (f r) (ls r)) :
    RowsOf w s0 (.slice (some ⟨g, 0, none⟩) N N) ((List.range N).map ls) := by
  refine ⟨(List.range N).map f, by simp, ⟨by simp, .inr ⟨g, N, rowF f N, by simp, hg, h, by simp, by simp [maxLen]; omega, by simp [rowF_size], ?_⟩⟩, fun i hi => ?_⟩
  · simp only [rowF, Nat.mul_one]
    exact List.take_of_length_le (by simp)
  · have hi' : i < N := by simpa using hi
    have e1 : ((List.range N).map f).getD i undef = f i := by simp [List.getD_eq_getElem?_getD, hi']
    have e2 : ((List.range N).map ls).getD i [] = ls i := by simp [List.getD_eq_getElem?_getD, hi']
    rw [e1, e2]; exact ho i hi'
structure InfP (N base gc gs i : Nat) (vs : Nat → Value) (W : World) : Prop where
  box : W.heap[gc]? = some (.cells #[.slice (some ⟨gs, 0, none⟩) N N] 71 (0, 0))
  tab : W.heap[gs]? = some (.cells (rowF vs N) 75 (0, 0))
  own : ∀ r, r < i → Own1 0 W base (vs r) (rowN N 0)
  nil : ∀ r, i ≤ r → vs r = .slice none 0 0
  sep : ∀ r r', r ≠ r' → ∀ k, (vs r).ownBlock = some k → (vs r').ownBlock ≠ some k
theorem InfP.step {N base gc gs i : Nat} {vs : Nat → Value} {W W8 : World} {v : Value} (h : InfP N base gc gs i vs W) (hi : i < N) (hb : Below W.heap.size W W8) (hw : base ≤ W.heap.size) (hv : Own1 0 W8 W.heap.size v (rowN N 0)) :
    InfP N base gc gs (i + 1) (fun r => if r = i then v else vs r) (W8.setCell ⟨gs, i, none⟩ v) := by
  have hb1 := heap_below h.box hb
  have ht1 := heap_below h.tab hb
  have hne : gc ≠ gs := blk_ne h.box h.tab (by decide)
  have hk : ∀ {t : Nat} {x : Value} {l : List Int}, te t ≠ 75 → Own1 t W8 base x l → Own1 t (W8.setCell ⟨gs, i, none⟩ v) base x l := fun ht ho => ho.move fun k hk => by
    obtain ⟨cs, hcs⟩ := ho.cells k hk
    exact Below.heap_setCell W8 ⟨gs, i, none⟩ v k (fun e => by subst e; rw [ht1] at hcs; injection hcs with h1; injection h1 with _ h2 _; exact ht h2.symm)
  have hvk : ∀ r, r < i → ∀ k, (vs r).ownBlock = some k → k < W.heap.size := fun r hr k hk => ((h.own r hr).lt k hk).2
  refine ⟨(Below.heap_setCell W8 ⟨gs, i, none⟩ v gc hne).trans hb1, heap_set_row v ht1, fun r hr => ?_, fun r hr => ?_, fun r r' hne' k hk1 hk2 => ?_⟩
  · by_cases e : r = i
    · subst e; rw [if_pos rfl]; exact hk (by decide) (hv.lower hw)
    · rw [if_neg e]; exact hk (by decide) ((h.own r (by omega)).kept (Kept.of_below hb (fun _ => False)) (fun _ _ h => h))
  · rw [if_neg (by omega)]; exact h.nil r (by omega)
  · have key : ∀ r, r ≠ i → ∀ k, (vs r).ownBlock = some k → v.ownBlock = some k → False := fun r hr k h1 h2 => by
      rcases Nat.lt_or_ge r i with hlt | hge
      · have := hvk r hlt k h1; have := (hv.lt k h2).1; omega
      · rw [h.nil r hge] at h1; cases h1
    by_cases e1 : r = i
    · rw [if_pos e1] at hk1
      rw [if_neg (by omega)] at hk2
      exact key r' (by omega) k hk2 hk1
    · rw [if_neg e1] at hk1
      by_cases e2 : r' = i
      · rw [if_pos e2] at hk2; exact key r e1 k hk1 hk2
      · rw [if_neg e2] at hk2; exact h.sep r r' hne' k hk1 hk2
set_option maxHeartbeats 8000000 in
set_option maxRecDepth 100000 in
theorem Interference_calls (nm : ByteArray) (R : Int) (hR : R ≤ 30) (A2 : Option Addr) (c2 n2 : Nat) (A3 : Option Addr) (c3 : Nat) (B : List S43) (w : World)
    (hC3 : k43.C w A3 B.length B) (hc3 : B.length ≤ c3) (hn : B.length ≤ 30) (hcode : ∀ x ∈ B, x.f0.length ≤ 1000) :
    Calls Try.prog 18 #[.agg #[.string nm, .int .i64 R, .slice A2 n2 c2, .slice A3 B.length c3]] w
      fun e w' => ((wfB R B = false ∧ e = .returned (.tuple #[.slice none 0 0, .int .i64 3])) ∨
        (∃ (N : Nat) (v : Value) (I O : Nat → Nat), R = N ∧ OkF N B ∧ e = .returned (.tuple #[v, .int .i64 0]) ∧ SI N B I O [] ∧ RowsOf w' w.heap.size v ((List.range N).map fun r => listN (infN B (visL B O B.length) r)))) ∧ Below w.heap.size w w' := by
  have hn1 : B.length ≤ 1000 := by omega
  have HC3 := Lib.hid hC3
  have HCD := Lib.hid hcode
  clear hC3 hcode
  obtain ⟨o, ho⟩ : ∃ o, o = wfB R B := ⟨_, rfl⟩
  rw [← ho]
  have HO := Lib.hid ho
  clear ho
  cases o with
  | false =>
    go_enter Try.func18, Try.ntmps18
    go_wp2_with (first
      | ((with_reducible refine gate_dst (N := 1) rfl ?_); refine box_event ?hg (N := 1) ?hd (cs := #[.string nm, .int .i64 R, .slice A2 n2 c2, .slice A3 B.length c3]) (t := 25) ?hr ?_; (case hd => rfl); (case hg => rfl); (case hr => first | (go_simp; done) | (go_simp; rfl)); intro g hg w3 hbox hbw; have HBW := Lib.hid hbw; obtain ⟨z0, z1, z2, z3⟩ := cells4 hbox; clear hbox hbw; have HG := Lib.hid hg; clear hg)
      | (go_at_call 35; refine (wf_calls nm R A2 c2 n2 A3 c3 B _ (Kd.C_below HC3.out HBW.out) hc3 hn1 HCD.out).mono ?_; rw [← HO.out]; rintro e w6 ⟨rfl, hb6⟩; have HB6 := Lib.hid hb6; clear hb6 z0 z1 z2 z3)
      | fail)
    go_ret2
    exact ⟨.inl ⟨trivial, rfl⟩, HBW.out.trans (HB6.out.mono HBW.out.size)⟩
  | true =>
    obtain ⟨N, rfl, hN, hF⟩ := (wfB_iff R B).1 HO.out.symm
    have HF := Lib.hid hF
    have hNR : N ≤ 30 := by omega
    clear hF
    have hms := run_make_row' (P := Try.prog) 71 75 (.slice none 0 0) 24 Try.underlying71 (by kernel_rfl) rfl .i64 .i64 N (by omega) (by omega)
    have hmp := run_make_row' (P := Try.prog) 28 39 (.slice none 0 0) 24 Try.underlying28 (by kernel_rfl) rfl .i64 .i64 N (by omega) (by omega)
    rw [rowF_made] at hms hmp
    go_enter Try.func18, Try.ntmps18
    go_upto_region 5 with (first
      | ((with_reducible refine gate_dst (N := 1) rfl ?_); refine box_event ?hg (N := 1) ?hd (cs := #[.string nm, .int .i64 N, .slice A2 n2 c2, .slice A3 B.length c3]) (t := 25) ?hr ?_; (case hd => rfl); (case hg => rfl); (case hr => first | (go_simp; done) | (go_simp; rfl)); intro g hg w3 hbox hbw; have BK := Lib.hid hbox; have HBW := Lib.hid hbw; obtain ⟨z0, z1, z2, z3⟩ := cells4 hbox; clear hbox hbw; have HG := Lib.hid hg; clear hg)
      | (go_at_call 35; refine (wf_calls nm N A2 c2 n2 A3 c3 B _ (Kd.C_below HC3.out HBW.out) hc3 hn1 HCD.out).mono ?_; rw [← HO.out]; rintro e w6 ⟨rfl, hb6⟩; have HB6 := Lib.hid hb6; have BKB := Lib.hid (heap_below BK.out hb6); clear hb6 z0 z1 z2 z3; obtain ⟨z0, z1, z2, z3⟩ := cells4 BKB.out)
      | fail)
    obtain ⟨gs, hgs⟩ : ∃ gs, gs = w6.heap.size := ⟨_, rfl⟩
    obtain ⟨w7, hw7⟩ : ∃ w7, w7 = ((w6.alloc (Obj.cells (rowF (fun _ => .slice none 0 0) N) 75)).alloc (Obj.cells #[.slice (some ⟨gs, 0, none⟩) N N] 71)) := ⟨_, rfl⟩
    rw [← hgs, ← hw7]
    have hb67 : Below w6.heap.size w6 w7 := by rw [hw7]; exact ((Below.refl _ w6).alloc (Nat.le_refl _) _).alloc (by simp) _
    have hw63 : w.heap.size ≤ w6.heap.size := (HBW.out.trans (HB6.out.mono HBW.out.size)).size
    have hP0 : InfP N w6.heap.size (gs + 1) gs 0 (fun _ => .slice none 0 0) w7 := by
      refine ⟨?_, ?_, fun r hr => by omega, fun r _ => rfl, fun r r' _ k hk => by cases hk⟩
      · rw [hw7, hgs, ← alloc_size1 w6 (Obj.cells (rowF (fun _ => .slice none 0 0) N) 75)]; exact World.alloc_heap_new _ _
      · rw [hw7, hgs]; exact (Below.heap_alloc _ _ _ (by simp)).trans (World.alloc_heap_new w6 _)
    have hgg : g < w6.heap.size := heap_lt BKB.out
    have HP0 := Lib.hid hP0
    have HBW7 := Lib.hid hb67
    have HBW6 := Lib.hid (HBW.out.trans (HB6.out.mono HBW.out.size))
    have hgsw : w6.heap.size ≤ gs := by omega
    clear hP0 hb67 hw7 hgs hms z0 z1 z2 z3 BK HBW HB6 HG
    go_loopg [16] (N) (fun k v16 wr => ∃ (i : Nat) (vs : Nat → Value), i ≤ N ∧ k = N - i ∧ v16 = .int .i64 i ∧ InfP N w6.heap.size (gs + 1) gs i vs wr ∧ Below w6.heap.size w6 wr)
    case atStart => exact ⟨0, _, Nat.zero_le _, rfl, rfl, HP0.out, HBW7.out⟩
    case round =>
      obtain ⟨i, vs, hi, rfl, rfl, hP, hbw⟩ := hrel
      obtain ⟨wo, rfl⟩ : ∃ wo, wo = wr := ⟨_, rfl⟩
      have HP := Lib.hid hP
      have hbk := heap_below BKB.out hbw
      have HBK := Lib.hid hbk
      have HBWo := Lib.hid hbw
      clear hP hbk hbw HP0 HBW7
      by_cases hlt : i < N
      · have hR0 := newSet_f (R := N) (by omega)
        obtain ⟨z0, z1, z2, z3⟩ := cells4 HBK.out
        have y0 : wo.cell? ⟨gs + 1, 0, none⟩ = some (.slice (some ⟨gs, 0, none⟩) N N) := (blk_cell HP.out.box 0).trans rfl
        obtain ⟨q1, fq1⟩ := cell_of_row HP.out.tab (rowF_get hlt)
        go_upto_region 7 with fail
        go_region_with (first
          | (go_at_call 40; refine (liveness_newSet.calls _ _ wo.drew hR0).mono ?_; rintro e w8 ⟨v8, rfl, hR8, hb8⟩; obtain ⟨A8, c8, rfl, _, _⟩ := Kd.R_reads hR8; have hb8' := (Below.refl wo.heap.size wo).drew.trans hb8; have HR8 := Lib.hid (Own1.of_R0 (t := 0) hR8); have HB8 := Lib.hid hb8'; have y1 : w8.cell? ⟨gs + 1, 0, none⟩ = some (.slice (some ⟨gs, 0, none⟩) N N) := (blk_cell (heap_below HP.out.box hb8') 0).trans rfl; obtain ⟨q2, fq2⟩ := cell_of_row (heap_below HP.out.tab hb8') (rowF_get hlt); clear hR8 hb8 hb8')
          | fail)
        all_goals
          have hX := HP.out.step hlt HB8.out HBWo.out.size HR8.out
          have HX := Lib.hid hX
          clear hX
          go_wp2_with fail
          go_roundg (N - (i + 1))
          case rel => exact ⟨i + 1, _, by omega, rfl, by go_num, HX.out, (HBWo.out.trans (HB8.out.mono HBWo.out.size)).setCell (p := ⟨gs, i, none⟩) hgsw _⟩
          case measure => omega
      · have e : i = N := by omega
        subst e
        have hJ : InfJ i w6.heap.size wo.heap.size (gs + 1) gs vs (infN B []) wo :=
          ⟨HP.out.box, HP.out.tab, fun r hr => HP.out.own r hr, fun r r' _ _ hne => HP.out.sep r r' hne, fun r hr k hk => ((HP.out.own r hr).lt k hk).2, heap_lt HP.out.box, heap_lt HP.out.tab, fun r _ => Nat.two_pow_pos _, Nat.le_refl _⟩
        have hvis := visit_calls nm i hNR A2 c2 n2 A3 c3 B (gs + 1) w6 wo _ HBWo.out (Kd.C_below HC3.out HBW6.out) hc3 hn HCD.out HF.out (act_ok hNR HF.out w6 (gs + 1) gs vs HBWo.out.size) hJ
        have HVIS := Lib.hid hvis
        have hmf : ∀ fn first cap w, (Instr.makeFunc fn first cap).run Try.prog w = .ok (.func fn first cap) w := fun _ _ _ _ => rfl
        obtain ⟨z0, z1, z2, z3⟩ := cells4 HBK.out
        clear hJ hvis
        go_upto_region 10 with (first
          | (go_at_call 47; refine HVIS.out.mono ?_; rintro e w9 ⟨I, O, rfl, hsi, hj, hb9⟩; have HSI := Lib.hid hsi; have HJ9 := Lib.hid hj; have HB9 := Lib.hid hb9; clear hsi hj hb9)
          | fail)
        have hbk9 := heap_below BKB.out HB9.out
        clear z0 z1 z2 z3 hmf HVIS HP HBK HBWo
        obtain ⟨z0, z1, z2, z3⟩ := cells4 hbk9
        clear hbk9
        obtain ⟨X, hX⟩ : ∃ X, X = infN B (visL B O B.length) := ⟨_, rfl⟩
        rw [← hX] at HJ9
        have HX := Lib.hid hX
        clear hX
        have hJ10 := HJ9.out.stable ((Below.refl w9.heap.size w9).alloc (Nat.le_refl _) (.cells (rowF (fun _ => .slice none 0 0) i) 39) |>.mono HJ9.out.sz)
        have y0 : (w9.alloc (.cells (rowF (fun _ => .slice none 0 0) i) 39)).cell? ⟨gs + 1, 0, none⟩ = some (.slice (some ⟨gs, 0, none⟩) i i) := (blk_cell hJ10.box 0).trans rfl
        have HJ10 := Lib.hid hJ10
        clear hJ10
        go_upto_region 12 with (first
          | fail)
        obtain ⟨gr, hgr⟩ : ∃ gr, gr = w9.heap.size := ⟨_, rfl⟩
        obtain ⟨wa, hwa⟩ : ∃ wa, wa = w9.alloc (.cells (rowF (fun _ => .slice none 0 0) i) 39) := ⟨_, rfl⟩
        rw [← hgr, ← hwa]
        have hba : Below w9.heap.size w9 wa := by rw [hwa]; exact (Below.refl _ w9).alloc (Nat.le_refl _) _
        have hra : wa.heap[gr]? = some (.cells (rowF (fun _ => .slice none 0 0) i) 39 (0, 0)) := by rw [hwa, hgr]; exact World.alloc_heap_new w9 _
        have hJa := HJ9.out.stable (hba.mono HJ9.out.sz)
        have hw96 : w6.heap.size ≤ w9.heap.size := HB9.out.size
        have hgrw : w6.heap.size ≤ gr := by omega
        have HRA := Lib.hid hra
        have HJA := Lib.hid hJa
        have HBA := Lib.hid (HB9.out.trans (hba.mono hw96))
        have hgrn : wo.heap.size ≤ gr := by rw [hgr]; exact HJ9.out.sz
        clear hba hra hJa hwa hgr y0 HJ10 z0 z1 z2 z3 HB9 HJ9
        go_loopw [34] (fun v wr => ∃ (j : Nat) (xs : Nat → Value), j ≤ i ∧ v = .int .i64 j ∧ InfJ i w6.heap.size wo.heap.size (gs + 1) gs vs X wr ∧ wr.heap[gr]? = some (.cells (rowF xs i) 39 (0, 0)) ∧ (∀ r, r < j → Own1 3 wr w6.heap.size (xs r) (listN (X r))) ∧ Below w6.heap.size w6 wr) (fun v _ => i - (intOf v).toNat)
        case atStart => exact ⟨0, _, Nat.zero_le _, rfl, HJA.out, HRA.out, fun r hr => absurd hr (Nat.not_lt_zero r), HBA.out⟩
        case round =>
          obtain ⟨j, xs, hj, rfl, hJ, hrow, hxs, hbw⟩ := hrel
          obtain ⟨wb, rfl⟩ : ∃ wb, wb = wr := ⟨_, rfl⟩
          have HJb := Lib.hid hJ
          have HRb := Lib.hid hrow
          have HXb := Lib.hid hxs
          have HBb := Lib.hid hbw
          clear hJ hrow hxs hbw HJA HRA HBA
          by_cases hjl : j < i
          · have hoj := HJb.out.own j hjl
            have hxl := HJb.out.xlt j hjl
            obtain ⟨Aj, cj, ej, hlj, hCj⟩ := Kd.R_reads (hoj.R0 (t := 0) (ok := fun _ => True) (fun _ _ => trivial))
            have hcall := liveness_set_list.calls 70 Aj cj (rowN i (X j)) _ wb hCj hlj (list_f (by omega) hxl (Nat.le_refl _))
            have HCALL := Lib.hid hcall
            have y0 : wb.cell? ⟨gs + 1, 0, none⟩ = some (.slice (some ⟨gs, 0, none⟩) i i) := (blk_cell HJb.out.box 0).trans rfl
            obtain ⟨y1, _⟩ := cell_of_row HJb.out.tab (rowF_get hjl)
            rw [ej] at y1
            clear hcall hCj hlj hoj ej
            go_wp2_with (first
              | (go_at_call 37; refine HCALL.out.mono ?_; rintro e w8 ⟨v8, rfl, hR8, hb8⟩; obtain ⟨A8, c8, rfl⟩ := Kd.R_slice hR8; have HR8 := Lib.hid (Own1.of_R0 (t := 3) hR8); have HB8 := Lib.hid hb8; obtain ⟨q2, fq2⟩ := cell_of_row (heap_below HRb.out hb8) (rowF_get hjl); clear hR8 hb8)
              | fail)
            go_roundw
            case rel =>
              have hsb : w6.heap.size ≤ wb.heap.size := HBb.out.size
              have hr8 := heap_below HRb.out HB8.out
              have hk : ∀ {x : Value} {l : List Int}, Own1 3 w8 w6.heap.size x l → Own1 3 (w8.setCell ⟨gr, j, none⟩ (.slice A8 (listN (X j)).length c8)) w6.heap.size x l := fun ho => ho.move fun k hk => by
                obtain ⟨cs, hcs⟩ := ho.cells k hk
                exact Below.heap_setCell w8 ⟨gr, j, none⟩ _ k (fun e => by subst e; rw [hr8] at hcs; injection hcs with h1; injection h1 with _ h2 _; exact absurd h2 (by decide))
              refine ⟨j + 1, fun r => if r = j then .slice A8 (listN (X j)).length c8 else xs r, by omega, by go_num, (HJb.out.stable (HB8.out.mono HJb.out.sz)).stable ((Below.refl _ w8).setCell (p := ⟨gr, j, none⟩) hgrn _), heap_set_row _ hr8, fun r hr => ?_, (HBb.out.trans (HB8.out.mono hsb)).setCell (p := ⟨gr, j, none⟩) hgrw _⟩
              dsimp only
              by_cases e : r = j
              · subst e; rw [if_pos rfl]; exact hk (HR8.out.lower hsb)
              · rw [if_neg e]; exact hk ((HXb.out r (by omega)).kept (Kept.of_below HB8.out (fun _ => False)) (fun _ _ h => h))
            case measure => simp [intOf]; omega
          · have e : j = i := by omega
            subst e
            go_wp2
            go_ret2
            have hsb : w.heap.size ≤ w6.heap.size := HBW6.out.size
            refine ⟨.inr ⟨j, _, I, O, rfl, HF.out, rfl, HSI.out, ?_⟩, HBW6.out.trans (HBb.out.mono hsb)⟩
            rw [← HX.out]
            exact (rowsOf_rowF HRb.out hgrw (by omega) HXb.out).lower hsb
end Go.Proofs.Ythgodpmahdnnjaa
end
section
namespace Go.Proofs.Ythgodpmahdnnjaa
open Go.RowKit Go.Proofs.YthgodpmahdnnjaaW.PrintWords Go.Proofs.YthgodpmahdnnjaaW.PrintMore Go.Proofs.Ythgodpmahdnnjaa.H
def aC : List S62 := [⟨1, 0, 0, 0, 1, ⟨#[]⟩⟩, ⟨1, 1, 0, 0, 2, ⟨#[]⟩⟩, ⟨3, 0, 0, 1, 6, ⟨#[]⟩⟩, ⟨10, 0, 0, 0, 0, ⟨#[]⟩⟩]
def aB : List S43 := [⟨aC, 3, 0, 0, 0⟩]
theorem aB_wf : wfB 2 aB = true := by decide
theorem aB_O {R : Nat} {I O : Nat → Nat} (h : SI R aB I O []) : O 0 = 0 ∧ I 0 = 0 := by
  have hO : O 0 = 0 := by
    apply Nat.eq_of_testBit_eq
    intro r
    rw [Nat.zero_testBit]
    cases hb : (O 0).testBit r with
    | false => rfl
    | true =>
      exfalso
      have hl := h.soundO 0 (by decide) r hb
      generalize hz : (0 : Nat) = b at hl
      cases hl with
      | use h1 _ => subst hz; simp [aB, succL] at h1
      | thru h1 _ _ => subst hz; simp [aB, succL] at h1
  refine ⟨hO, ?_⟩
  have := (h.fixed 0 (by decide) (by simp)).1
  rw [this, hO]
  decide
theorem aB_inf (O : Nat → Nat) (h : O 0 = 0) : listN (infN aB (visL aB O 1) 0) = [1] ∧ listN (infN aB (visL aB O 1) 1) = [0] := by
  have e : visL aB O 1 = visL aB (fun _ => 0) 1 := by simp [visL, h]
  rw [e]
  constructor <;> decide
theorem aB_bef : befoR 2 aB [[]] 0 2 = [0, 1] := by decide
theorem C_flat {α : Type} {d : Kd α} {w : World} {g : Nat} {t : TypeId} {cells : Array Value} (h : w.heap[g]? = some (.cells cells t (0, 0))) (xs : List α) (hn : xs.length ≤ 1000)
    (hK : ∀ j p, xs[j]? = some p → ∃ c, c.length = d.sz ∧ d.K w p c ∧ ∀ i u, c[i]? = some u → cells[j * d.sz + i]? = some u) : d.C w (some ⟨g, 0, none⟩) xs.length xs := by
  refine ⟨rfl, by omega, fun _ => ⟨_, rfl, fun j p hp => ?_⟩⟩
  obtain ⟨c, h1, h2, h3⟩ := hK j p hp
  refine ⟨c, h1, h2, fun i u hu => ?_⟩
  have hadd : (⟨g, 0, none⟩ : Addr).add (j * d.sz + i) = ⟨g, j * d.sz + i, none⟩ := by unfold Addr.add; split <;> simp_all
  rw [hadd]
  exact (cell_of_row h (h3 i u hu)).1
structure AwW (w : World) (h2 h3 h4 : Nat) (Ai : Option Addr) (ci : Nat) (Ao : Option Addr) (co : Nat) (pI : Addr) (A0 : Option Addr) (c0 : Nat) (p0 p1 : Addr) (L0 : Option Addr) (d0 : Nat) (L1 : Option Addr) (d1 : Nat) (W : World) : Prop where
  b25 : W.heap[h3]? = some (.cells #[.string ⟨#[]⟩, .int .i64 2, .slice none 0 0, .slice (some ⟨h2, 0, none⟩) 1 1] 25 (0, 0))
  b30 : W.heap[h4]? = some (.cells #[.slice Ai 1 ci, .slice Ao 1 co] 30 (0, 0))
  cB : k43.C W (some ⟨h2, 0, none⟩) 1 aB
  cO : (Kd.slice 3 (Kd.int .i64)).C W Ao 1 [[]]
  e0 : W.cell? pI = some (.slice A0 0 c0)
  l0 : W.cell? p0 = some (.slice L0 1 d0)
  l1 : W.cell? p1 = some (.slice L1 1 d1)
  r0 : (Kd.int .i64).C W L0 1 [1]
  r1 : (Kd.int .i64).C W L1 1 [0]
  bw : Below w.heap.size w W
theorem cell_up {W W1 : World} {p : Addr} {v : Value} (h : W.cell? p = some v) (hb : Below W.heap.size W W1) : W1.cell? p = some v := (World.cell?_of_block (hb.block _ (World.block_lt_of_cell? W _ h))).trans h
theorem AwW.step {w : World} {h2 h3 h4 : Nat} {Ai : Option Addr} {ci : Nat} {Ao : Option Addr} {co : Nat} {pI : Addr} {A0 : Option Addr} {c0 : Nat} {p0 p1 : Addr} {L0 : Option Addr} {d0 : Nat} {L1 : Option Addr} {d1 : Nat} {W W1 : World} (h : AwW w h2 h3 h4 Ai ci Ao co pI A0 c0 p0 p1 L0 d0 L1 d1 W) (hb : Below W.heap.size W W1) : AwW w h2 h3 h4 Ai ci Ao co pI A0 c0 p0 p1 L0 d0 L1 d1 W1 :=
  ⟨heap_below h.b25 hb, heap_below h.b30 hb, Kd.C_below h.cB hb, Kd.C_below h.cO hb, cell_up h.e0 hb, cell_up h.l0 hb, cell_up h.l1 hb, Kd.C_below h.r0 hb, Kd.C_below h.r1 hb, h.bw.trans (hb.mono h.bw.size)⟩
theorem C_new (W : World) (xs : List Int) (hn : xs.length ≤ 1000) : (Kd.int .i64).C (W.alloc (.cells (nums .i64 xs).toArray 3)) (some ⟨W.heap.size, 0, none⟩) xs.length xs :=
  C_flat (World.alloc_heap_new W _) xs hn (fun j p hp => ⟨[.int .i64 p], rfl, rfl, fun i u hu => by
    have hi : i = 0 := by have := (List.getElem?_eq_some_iff.1 hu).1; simp at this; omega
    subst hi
    simp at hu; subst hu
    have : (Kd.int .i64).sz = 1 := rfl
    rw [this]
    simp [nums, hp]⟩)
theorem aB_code : ∀ x ∈ aB, x.f0.length ≤ 1000 := fun x hx => by simp [aB] at hx; subst hx; decide
theorem aOf {W : World} {h2 : Nat} (hC : k43.C W (some ⟨h2, 0, none⟩) 1 aB) : Calls Try.prog 10 #[.agg #[.string ⟨#[]⟩, .int .i64 2, .slice none 0 0, .slice (some ⟨h2, 0, none⟩) 1 1]] W fun e w' =>
    ∃ Ai ci Ao co, e = .returned (.tuple #[.agg #[.slice Ai 1 ci, .slice Ao 1 co], .int .i64 0]) ∧ (Kd.slice 3 (Kd.int .i64)).C w' Ai 1 [[]] ∧ (Kd.slice 3 (Kd.int .i64)).C w' Ao 1 [[]] ∧ 1 ≤ co ∧ Below W.heap.size W w' := by
  refine (Of_calls ⟨#[]⟩ 2 (by decide) none 0 0 (some ⟨h2, 0, none⟩) 1 aB W hC (by decide) (by decide) aB_code).mono ?_
  rintro e w' ⟨h, hb⟩
  rcases h with ⟨hf, _⟩ | ⟨N, vi, vo, I, O, hN, _, rfl, hsi, hRi, hRo⟩
  · rw [aB_wf] at hf; cases hf
  · obtain ⟨hO, hI⟩ := aB_O hsi
    have eI : lstN I aB.length = [[]] := by simp [lstN, aB, hI]; decide
    have eO : lstN O aB.length = [[]] := by simp [lstN, aB, hO]; decide
    rw [eI] at hRi
    rw [eO] at hRo
    obtain ⟨Ai, ci, rfl, _, hCi⟩ := hRi.C
    obtain ⟨Ao, co, rfl, hlo, hCo⟩ := hRo.C
    exact ⟨Ai, ci, Ao, co, rfl, hCi, hCo, hlo, hb⟩
theorem aInf {W : World} {h2 : Nat} (hC : k43.C W (some ⟨h2, 0, none⟩) 1 aB) : Calls Try.prog 18 #[.agg #[.string ⟨#[]⟩, .int .i64 2, .slice none 0 0, .slice (some ⟨h2, 0, none⟩) 1 1]] W fun e w' =>
    ∃ Al cl, e = .returned (.tuple #[.slice Al 2 cl, .int .i64 0]) ∧ (Kd.slice 3 (Kd.int .i64)).C w' Al 2 [[1], [0]] ∧ Below W.heap.size W w' := by
  refine (Interference_calls ⟨#[]⟩ 2 (by decide) none 0 0 (some ⟨h2, 0, none⟩) 1 aB W hC (by decide) (by decide) aB_code).mono ?_
  rintro e w' ⟨h, hb⟩
  rcases h with ⟨hf, _⟩ | ⟨N, v, I, O, hN, _, rfl, hsi, hR⟩
  · rw [aB_wf] at hf; cases hf
  · obtain ⟨hO, _⟩ := aB_O hsi
    obtain ⟨e0, e1⟩ := aB_inf O hO
    obtain rfl : N = 2 := by omega
    have eL : ((List.range 2).map fun r => listN (infN aB (visL aB O aB.length) r)) = [[1], [0]] := by
      show [listN (infN aB (visL aB O 1) 0), listN (infN aB (visL aB O 1) 1)] = _
      rw [e0, e1]
    rw [eL] at hR
    obtain ⟨Al, cl, rfl, _, hCl⟩ := hR.C
    exact ⟨Al, cl, rfl, hCl, hb⟩
theorem aBef {W : World} {h2 ci co : Nat} {Ai Ao : Option Addr} (hC : k43.C W (some ⟨h2, 0, none⟩) 1 aB) (hCo : (Kd.slice 3 (Kd.int .i64)).C W Ao 1 [[]]) (hco : 1 ≤ co) :
    Calls Try.prog 13 #[.agg #[.string ⟨#[]⟩, .int .i64 2, .slice none 0 0, .slice (some ⟨h2, 0, none⟩) 1 1], .agg #[.slice Ai 1 ci, .slice Ao 1 co], .int .i64 0, .int .i64 2] W fun e w' =>
    ∃ A c, e = .returned (.slice A 2 c) ∧ 2 ≤ c ∧ (Kd.int .i64).C w' A 2 [0, 1] ∧ Below W.heap.size W w' := by
  refine (Before_calls ⟨#[]⟩ 2 none 0 0 (some ⟨h2, 0, none⟩) 1 aB Ai 1 ci Ao co [[]] 0 2 W hC (by decide) (by decide) aB_code (by decide) hCo hco (by decide) (by simp)).mono ?_
  rintro e w' ⟨v, rfl, hR, hb⟩
  rw [aB_bef] at hR
  obtain ⟨A, c, rfl, hl, hCv⟩ := Kd.R_reads hR
  exact ⟨A, c, rfl, hl, hCv, hb⟩
theorem aEq {W : World} {L : Option Addr} {d : Nat} (xs : List Int) (hn : xs.length ≤ 3) (hC : (Kd.int .i64).C W L xs.length xs) (hd : xs.length ≤ d) (hf : slices_Equal_int_int.f 10 xs xs = some true) :
    Calls Try.prog 14 #[.slice L xs.length d, .slice (some ⟨W.heap.size, 0, none⟩) xs.length xs.length] (W.alloc (.cells (nums .i64 xs).toArray 3)) fun e w' => e = .returned (.bool true) ∧ Below W.heap.size W w' := by
  have hb : Below W.heap.size W (W.alloc (.cells (nums .i64 xs).toArray 3)) := (Below.refl _ W).alloc (Nat.le_refl _) _
  refine (slices_Equal_int_int.calls 10 L d xs (some ⟨W.heap.size, 0, none⟩) xs.length xs true _ (Kd.C_below hC hb) hd (C_new W xs (by omega)) (Nat.le_refl _) hf).mono ?_
  rintro e w' ⟨rfl, hd'⟩
  exact ⟨rfl, hb.trans (hd'.below.mono hb.size)⟩
set_option maxHeartbeats 8000000 in
set_option maxRecDepth 100000 in
theorem awake_calls (w : World) : Calls Try.prog 8 #[] w fun e w' => e = .returned (.bool true) ∧ Below w.heap.size w w' := by
  have i1 : ontimelaw19_ins.f 1 0 0 0 1 = some (1, 0, 0, 0, 1, ⟨#[]⟩) := by (show _ = _); kernel_rfl
  have i2 : ontimelaw19_ins.f 1 1 0 0 2 = some (1, 1, 0, 0, 2, ⟨#[]⟩) := by (show _ = _); kernel_rfl
  have i3 : ontimelaw19_ins.f 3 0 0 1 6 = some (3, 0, 0, 1, 6, ⟨#[]⟩) := by (show _ = _); kernel_rfl
  have i4 : ontimelaw19_ins.f 10 0 0 0 0 = some (10, 0, 0, 0, 0, ⟨#[]⟩) := by (show _ = _); kernel_rfl
  have I1 := Lib.hid i1
  have I2 := Lib.hid i2
  have I3 := Lib.hid i3
  have I4 := Lib.hid i4
  clear i1 i2 i3 i4
  go_enter Try.func8, Try.ntmps8
  go_upto_region 2 with (first
    | (go_at_call 30; have hx := HB3.out; clear hx; refine (ontimelaw19_ins.calls 10 0 0 0 0 _ _ _ _ _ _ _ I4.out).mono ?_; rintro e w4 ⟨rfl, hb4⟩; have HB4 := Lib.hid hb4; clear hb4)
    | (go_at_call 30; have hx := HB2.out; clear hx; refine (ontimelaw19_ins.calls 3 0 0 1 6 _ _ _ _ _ _ _ I3.out).mono ?_; rintro e w3 ⟨rfl, hb3⟩; have HB3 := Lib.hid hb3; clear hb3)
    | (go_at_call 30; have hx := HB1.out; clear hx; refine (ontimelaw19_ins.calls 1 1 0 0 2 _ _ _ _ _ _ _ I2.out).mono ?_; rintro e w2 ⟨rfl, hb2⟩; have HB2 := Lib.hid hb2; clear hb2)
    | (go_at_call 30; refine (ontimelaw19_ins.calls 1 0 0 0 1 _ _ _ _ _ _ _ I1.out).mono ?_; rintro e w1 ⟨rfl, hb1⟩; have HB1 := Lib.hid hb1; clear hb1)
    | fail)
  obtain ⟨h1, hh1⟩ : ∃ h1, h1 = w4.heap.size := ⟨_, rfl⟩
  obtain ⟨w5, hw5⟩ : ∃ w5, w5 = w4.alloc (.cells #[.int .u8 1, .int .i64 0, .int .i64 0, .int .i64 0, .int .i64 1, .string ⟨#[]⟩, .int .u8 1, .int .i64 1, .int .i64 0, .int .i64 0, .int .i64 2, .string ⟨#[]⟩, .int .u8 3, .int .i64 0, .int .i64 0, .int .i64 1, .int .i64 6, .string ⟨#[]⟩, .int .u8 10, .int .i64 0, .int .i64 0, .int .i64 0, .int .i64 0, .string ⟨#[]⟩] 62) := ⟨_, rfl⟩
  obtain ⟨w6, hw6⟩ : ∃ w6, w6 = w5.alloc (.cells #[.slice (some ⟨h1, 0, none⟩) 4 4, .int .u8 3, .int .i64 0, .int .i64 0, .int .i64 0] 43) := ⟨_, rfl⟩
  obtain ⟨w7, hw7⟩ : ∃ w7, w7 = w6.alloc (.cells #[.string ⟨#[]⟩, .int .i64 2, .slice none 0 0, .slice (some ⟨h1 + 1, 0, none⟩) 1 1] 25) := ⟨_, rfl⟩
  rw [← hh1, ← hw5, ← hw6, ← hw7]
  have hb45 : Below w4.heap.size w4 w5 := by rw [hw5]; exact (Below.refl _ w4).alloc (Nat.le_refl _) _
  have hs5 : w5.heap.size = h1 + 1 := by rw [hw5, hh1]; exact alloc_size1 _ _
  have hb56 : Below w5.heap.size w5 w6 := by rw [hw6]; exact (Below.refl _ w5).alloc (Nat.le_refl _) _
  have hs6 : w6.heap.size = h1 + 1 + 1 := by rw [hw6, alloc_size1, hs5]
  have hb67 : Below w6.heap.size w6 w7 := by rw [hw7]; exact (Below.refl _ w6).alloc (Nat.le_refl _) _
  have hc5 : k62.C w5 (some ⟨h1, 0, none⟩) 4 aC := by
    have hk := World.alloc_heap_new w4 (.cells #[.int .u8 1, .int .i64 0, .int .i64 0, .int .i64 0, .int .i64 1, .string ⟨#[]⟩, .int .u8 1, .int .i64 1, .int .i64 0, .int .i64 0, .int .i64 2, .string ⟨#[]⟩, .int .u8 3, .int .i64 0, .int .i64 0, .int .i64 1, .int .i64 6, .string ⟨#[]⟩, .int .u8 10, .int .i64 0, .int .i64 0, .int .i64 0, .int .i64 0, .string ⟨#[]⟩] 62)
    rw [← hw5, ← hh1] at hk
    refine C_flat hk aC (by decide) fun j p hp => ?_
    have hj : j < 4 := (List.getElem?_eq_some_iff.1 hp).1
    refine ⟨_, rfl, k62_mk w5 p, fun i u hu => ?_⟩
    have hi : i < 6 := (List.getElem?_eq_some_iff.1 hu).1
    rw [show Kd.sz k62 = 6 from rfl]
    have hjc : j = 0 ∨ j = 1 ∨ j = 2 ∨ j = 3 := by omega
    have hic : i = 0 ∨ i = 1 ∨ i = 2 ∨ i = 3 ∨ i = 4 ∨ i = 5 := by omega
    rcases hjc with rfl | rfl | rfl | rfl <;> (injection hp with hp; subst hp; rcases hic with rfl | rfl | rfl | rfl | rfl | rfl <;> exact hu)
  have hc6 : k43.C w6 (some ⟨h1 + 1, 0, none⟩) 1 aB := by
    have hk := World.alloc_heap_new w5 (.cells #[.slice (some ⟨h1, 0, none⟩) 4 4, .int .u8 3, .int .i64 0, .int .i64 0, .int .i64 0] 43)
    rw [← hw6, hs5] at hk
    refine C_flat hk aB (by decide) fun j p hp => ?_
    have hj : j < 1 := (List.getElem?_eq_some_iff.1 hp).1
    obtain rfl : j = 0 := by omega
    injection hp with hp
    subst hp
    refine ⟨_, rfl, k43_mk w6 ⟨aC, 3, 0, 0, 0⟩ (c0 := 4) (Nat.le_refl _) (Kd.C_below hc5 hb56), fun i u hu => ?_⟩
    have hi : i < 5 := (List.getElem?_eq_some_iff.1 hu).1
    rw [show Kd.sz k43 = 5 from rfl]
    have hic : i = 0 ∨ i = 1 ∨ i = 2 ∨ i = 3 ∨ i = 4 := by omega
    rcases hic with rfl | rfl | rfl | rfl | rfl <;> exact hu
  have hk7 : w7.heap[h1 + 1 + 1]? = some (.cells #[.string ⟨#[]⟩, .int .i64 2, .slice none 0 0, .slice (some ⟨h1 + 1, 0, none⟩) 1 1] 25 (0, 0)) := by rw [hw7, ← hs6]; exact World.alloc_heap_new w6 _
  have hb4 : Below w.heap.size w w4 := HB1.out.trans ((HB2.out.trans ((HB3.out.trans (HB4.out.mono HB3.out.size)).mono HB2.out.size)).mono HB1.out.size)
  have hb7 : Below w.heap.size w w7 := hb4.trans ((hb45.trans ((hb56.trans (hb67.mono hb56.size)).mono hb45.size)).mono hb4.size)
  have HC7 := Lib.hid (Kd.C_below hc6 hb67)
  have HK7 := Lib.hid hk7
  have HB7 := Lib.hid hb7
  clear hc5 hc6 hk7 hb4 hb7 hb45 hb56 hb67 hs5 hs6 hw5 hw6 hw7 hh1 HB1 HB2 HB3 HB4 I1 I2 I3 I4
  have HOF := Lib.hid (aOf HC7.out)
  obtain ⟨z0, z1, z2, z3⟩ := cells4 HK7.out
  go_upto_region 3 with (first
    | (go_at_call 10; refine HOF.out.mono ?_; rintro e w8 ⟨Ai, ci, Ao, co, rfl, hCi, hCo, hlo, hb8⟩; have HCI := Lib.hid hCi; have HCO := Lib.hid hCo; have HLO := Lib.hid hlo; have HB8 := Lib.hid hb8; clear hCi hCo hlo hb8 z0 z1 z2 z3)
    | fail)
  obtain ⟨h4, hh4⟩ : ∃ h4, h4 = w8.heap.size := ⟨_, rfl⟩
  obtain ⟨w9, hw9⟩ : ∃ w9, w9 = w8.alloc (.cells #[.slice Ai 1 ci, .slice Ao 1 co] 30) := ⟨_, rfl⟩
  rw [← hh4, ← hw9]
  have hb89 : Below w8.heap.size w8 w9 := by rw [hw9]; exact (Below.refl _ w8).alloc (Nat.le_refl _) _
  have hk9 : w9.heap[h4]? = some (.cells #[.slice Ai 1 ci, .slice Ao 1 co] 30 (0, 0)) := by rw [hw9, hh4]; exact World.alloc_heap_new w8 _
  have hb79 := HB8.out.trans (hb89.mono HB8.out.size)
  have HC9 := Lib.hid (Kd.C_below HC7.out hb79)
  have HCI9 := Lib.hid (Kd.C_below HCI.out hb89)
  have HCO9 := Lib.hid (Kd.C_below HCO.out hb89)
  have HKF9 := Lib.hid (heap_below HK7.out hb79)
  have HK9 := Lib.hid hk9
  have HB9 := Lib.hid (HB7.out.trans (hb79.mono HB7.out.size))
  have HINF := Lib.hid (aInf HC9.out)
  clear hb89 hk9 hb79 hw9 hh4 HOF HCI HCO HC7 HK7 HB7 HB8
  obtain ⟨z0, z1, z2, z3⟩ := cells4 HKF9.out
  go_upto_region 4 with (first
    | (go_at_call 18; refine HINF.out.mono ?_; rintro e w10 ⟨Al, cl, rfl, hCl, hb10⟩; have HCL := Lib.hid hCl; have HB10 := Lib.hid hb10; clear hCl hb10 z0 z1 z2 z3)
    | fail)
  obtain ⟨adi, A0, c0, rfl, e0, hc0, _⟩ := at_rows (Kd.C_below HCI9.out HB10.out) 0 (by omega) (by omega)
  obtain ⟨adl, L0, d0, rfl, l0, hd0, r0⟩ := at_rows HCL.out 0 (by omega) (by omega)
  obtain ⟨adl', L1, d1, hadl, l1, hd1, r1⟩ := at_rows HCL.out 1 (by omega) (by omega)
  cases hadl
  have ha0 : ∀ a : Addr, a.add (0 : Int).toNat = a := fun a => by cases a; simp [Addr.add]
  rw [ha0] at e0 l0
  rw [show adl.add (1 : Int).toNat = ⟨adl.block, adl.off + 1, none⟩ by unfold Addr.add; simp] at l1
  clear ha0
  have HAW := Lib.hid (show AwW w (h1 + 1) (h1 + 1 + 1) h4 (some adi) ci Ao co adi A0 c0 adl ⟨adl.block, adl.off + 1, none⟩ L0 d0 L1 d1 w10 from ⟨heap_below HKF9.out HB10.out, heap_below HK9.out HB10.out, Kd.C_below HC9.out HB10.out, Kd.C_below HCO9.out HB10.out, e0, l0, l1, r0, r1, HB9.out.trans (HB10.out.mono HB9.out.size)⟩)
  have f1 : slices_Equal_int_int.f 10 [1] [1] = some true := by (show _ = _); kernel_rfl
  have f2 : slices_Equal_int_int.f 10 [0] [0] = some true := by (show _ = _); kernel_rfl
  have f3 : slices_Equal_int_int.f 10 [0, 1] [0, 1] = some true := by (show _ = _); kernel_rfl
  have hd0' : 1 ≤ d0 := hd0
  have hd1' : 1 ≤ d1 := hd1
  have E1 := Lib.hid (fun (W : World) (h : AwW w (h1 + 1) (h1 + 1 + 1) h4 (some adi) ci Ao co adi A0 c0 adl ⟨adl.block, adl.off + 1, none⟩ L0 d0 L1 d1 W) => aEq [1] (by decide) h.r0 hd0' f1)
  have E2 := Lib.hid (fun (W : World) (h : AwW w (h1 + 1) (h1 + 1 + 1) h4 (some adi) ci Ao co adi A0 c0 adl ⟨adl.block, adl.off + 1, none⟩ L0 d0 L1 d1 W) => aEq [0] (by decide) h.r1 hd1' f2)
  have E3 := Lib.hid (fun (W : World) (A : Option Addr) (c : Nat) (h : (Kd.int .i64).C W A 2 [0, 1]) (hc : 2 ≤ c) => aEq (L := A) (d := c) [0, 1] (by decide) h hc f3)
  have B1 := Lib.hid (fun (W : World) (h : AwW w (h1 + 1) (h1 + 1 + 1) h4 (some adi) ci Ao co adi A0 c0 adl ⟨adl.block, adl.off + 1, none⟩ L0 d0 L1 d1 W) => aBef (ci := ci) (Ai := some adi) h.cB h.cO HLO.out)
  clear f1 f2 f3 hd0 hd1 hd0' hd1' hc0 e0 l0 l1 r0 r1 HKF9 HK9 HC9 HCO9 HCI9 HCL HINF HB9 HB10
  have e0 := HAW.out.e0
  have l0 := HAW.out.l0
  have l1 := HAW.out.l1
  obtain ⟨y0, y1⟩ := cells2 HAW.out.b30
  obtain ⟨z0, z1, z2, z3⟩ := cells4 HAW.out.b25
  go_wp2_with (first
    | (go_at_call 14; have hx := HAW13.out; clear hx; refine (E3.out w13 A13 c13 HC13.out hc13).mono ?_; rintro e w14 ⟨rfl, hb14⟩; have HB14 := Lib.hid hb14; clear hb14)
    | (go_at_call 13; refine (B1.out w12 HAW12.out).mono ?_; rintro e w13 ⟨A13, c13, rfl, hc13, hC13, hb13⟩; have HC13 := Lib.hid hC13; have HAW13 := Lib.hid (HAW12.out.step hb13); clear hC13 hb13)
    | (go_at_call 14; have hx := HAW11.out; clear hx; refine (E2.out w11 HAW11.out).mono ?_; rintro e w12 ⟨rfl, hb12⟩; have HAW12 := Lib.hid (HAW11.out.step hb12); clear hb12 e0 l0 l1 y0 y1 z0 z1 z2 z3; have e0 := HAW12.out.e0; have l0 := HAW12.out.l0; have l1 := HAW12.out.l1; obtain ⟨y0, y1⟩ := cells2 HAW12.out.b30; obtain ⟨z0, z1, z2, z3⟩ := cells4 HAW12.out.b25)
    | (go_at_call 14; refine (E1.out w10 HAW.out).mono ?_; rintro e w11 ⟨rfl, hb11⟩; have HAW11 := Lib.hid (HAW.out.step hb11); clear hb11 e0 l0 l1 y0 y1 z0 z1 z2 z3; have e0 := HAW11.out.e0; have l0 := HAW11.out.l0; have l1 := HAW11.out.l1; obtain ⟨y0, y1⟩ := cells2 HAW11.out.b30; obtain ⟨z0, z1, z2, z3⟩ := cells4 HAW11.out.b25)
    | fail)
  go_ret
  exact ⟨rfl, HAW13.out.bw.trans (HB14.out.mono HAW13.out.bw.size)⟩
end Go.Proofs.Ythgodpmahdnnjaa
end
section
namespace Go.Proofs.Ythgodpmahdnnjaa
open Go.RowKit Go.Proofs.YthgodpmahdnnjaaW.PrintWords Go.Proofs.YthgodpmahdnnjaaW.PrintMore Go.Proofs.Ythgodpmahdnnjaa.H
theorem blk_four {w : World} {g : Nat} {t : TypeId} {a b c d : Value} (h : w.heap[g]? = some (.cells #[a, b, c, d] t (0, 0))) (u0 u1 u2 u3 : Value) :
    ((((w.setCell ⟨g, 0, none⟩ u0).setCell ⟨g, 1, none⟩ u1).setCell ⟨g, 2, none⟩ u2).setCell ⟨g, 3, none⟩ u3).heap[g]? = some (.cells #[u0, u1, u2, u3] t (0, 0)) :=
  blk_put (blk_put (blk_put (blk_put h 0 u0 rfl) 1 u1 rfl) 2 u2 rfl) 3 u3 rfl
theorem step_code {ops : Array Oper} {o : Oper} {a : Act} {K : Act → World → Prop} {Q : Exit → Act → World → Prop} {E : Prop} {w8 : World} {base : Nat} (v : Value) (xs : List S80) (p : S62) (hgd : o.guard = none) (s y : Operand)
    (ho : o.op = .call { callee := .builtin .append, args := #[s, y], argTypes := #[77, 77] }) (hs : a.eval s = v) (hx : a.eval y = .slice (some ⟨w8.heap.size, 0, none⟩) 1 1)
    (hR : k80.R 80 w8 base (fun _ => True) v xs) (hi : xs.length ≤ 1000) (hb : base ≤ w8.heap.size)
    (h : ∀ v1 w', k80.R 80 w' base (fun _ => True) v1 (xs ++ [refI p]) → w8.grownBy w' v.ownBlock → K (a.put o.dst v1) w') :
    if Region.wanted o (yielded ops a.tmps) = true then Oper.wp Try.prog o a (w8.alloc (.cells #[.int .u8 p.f0, .int .i64 p.f1, .int .i64 p.f2, .int .i64 p.f3, .int .i64 p.f4, .string p.f5] 80)) K Q else E := by
  obtain ⟨i0, hi0, hz0, hz1, hz2⟩ := info_parts (show (Try.prog.info? 80).map (fun i => (i.zero, i.size, i.bytes)) = some (some (.agg #[.int .u8 0, .int .i64 0, .int .i64 0, .int .i64 0, .int .i64 0, .string ⟨#[]⟩]), 6, 56) by kernel_rfl)
  obtain ⟨h0, inner, hown, hr⟩ := hR
  have hsz : (w8.alloc (.cells #[.int .u8 p.f0, .int .i64 p.f1, .int .i64 p.f2, .int .i64 p.f3, .int .i64 p.f4, .string p.f5] 80)).heap.size = w8.heap.size + 1 := alloc_size1 _ _
  refine step_append_lies _ hgd s y 77 ho base 80 i0 _ 6 56 Try.underlying77 hi0 hz0 hz1 hz2 rfl (by decide) v xs.length inner hs (hown.alloc _) ⟨w8.heap.size, 0, none⟩ 1 1 [.int .u8 p.f0, .int .i64 p.f1, .int .i64 p.f2, .int .i64 p.f3, .int .i64 p.f4, .string p.f5] hx rfl
    (World.news_of_block (cs := #[.int .u8 p.f0, .int .i64 p.f1, .int .i64 p.f2, .int .i64 p.f3, .int .i64 p.f4, .string p.f5]) (World.alloc_heap_new w8 _)) (fun u hu => by simp at hu; rcases hu with rfl | rfl | rfl | rfl | rfl | rfl <;> rfl) (by decide) (by simp [maxLen]; omega) (by omega) (by omega) _ rfl ?_
  intro g cap w' ho' hg' hat _
  have hg8 : w8.grownBy w' v.ownBlock := ⟨hg'.os, hg'.tape, hg'.output, by have := hg'.size; omega, fun k hk hne => (hg'.block k (by omega) hne).trans (Below.heap_alloc w8 _ k hk)⟩
  refine h _ w' (Kd.R_appended (okp := fun _ => False) h0 hr (k80_mkM w8 base _ (refI p)) (fun _ hk => hk.elim) (fun _ _ => trivial) ho' hg8 ?_) hg8
  rcases hat with hat | hat
  · exact .inl hat.symm
  · exact .inr ⟨g, rfl, by rw [hat, hsz]; omega⟩
theorem six_up {W W1 : World} {p : Addr} {a b c d e f : Value} (hb : W1.heap[p.block]? = W.heap[p.block]?) (h : W.cell? p = some a ∧ W.cell? ⟨p.block, p.off + 1, none⟩ = some b ∧ W.cell? ⟨p.block, p.off + 2, none⟩ = some c ∧ W.cell? ⟨p.block, p.off + 3, none⟩ = some d ∧ W.cell? ⟨p.block, p.off + 4, none⟩ = some e ∧ W.cell? ⟨p.block, p.off + 5, none⟩ = some f) :
    W1.cell? p = some a ∧ W1.cell? ⟨p.block, p.off + 1, none⟩ = some b ∧ W1.cell? ⟨p.block, p.off + 2, none⟩ = some c ∧ W1.cell? ⟨p.block, p.off + 3, none⟩ = some d ∧ W1.cell? ⟨p.block, p.off + 4, none⟩ = some e ∧ W1.cell? ⟨p.block, p.off + 5, none⟩ = some f :=
  ⟨(World.cell?_of_block hb).trans h.1, (World.cell?_of_block (a := ⟨p.block, p.off + 1, none⟩) hb).trans h.2.1, (World.cell?_of_block (a := ⟨p.block, p.off + 2, none⟩) hb).trans h.2.2.1, (World.cell?_of_block (a := ⟨p.block, p.off + 3, none⟩) hb).trans h.2.2.2.1, (World.cell?_of_block (a := ⟨p.block, p.off + 4, none⟩) hb).trans h.2.2.2.2.1, (World.cell?_of_block (a := ⟨p.block, p.off + 5, none⟩) hb).trans h.2.2.2.2.2⟩
set_option maxHeartbeats 8000000 in
set_option maxRecDepth 100000 in
theorem Plain_calls (nm : ByteArray) (R : Int) (A2 : Option Addr) (n2 c2 : Nat) (A3 : Option Addr) (c3 : Nat) (B : List S43) (w : World) (hC3 : k43.C w A3 B.length B) (hn : B.length ≤ 1000) (hcode : ∀ x ∈ B, x.f0.length ≤ 1000) :
    Calls Try.prog 11 #[.agg #[.string nm, .int .i64 R, .slice A2 n2 c2, .slice A3 B.length c3]] w
      fun e w' => ∃ A c, e = .returned (.agg #[.string nm, .int .i64 R, .slice A2 n2 c2, .slice A B.length c]) ∧ B.length ≤ c ∧ k79.C w' A B.length (B.map refB) ∧ Below w.heap.size w w' := by
  have HC3 := Lib.hid hC3
  have HCO := Lib.hid hcode
  clear hC3 hcode
  go_enter Try.func11, Try.ntmps11
  go_upto_region 2 with (first
    | ((with_reducible refine gate_dst (N := 1) rfl ?_); refine box_event ?hg (N := 1) ?hd (cs := #[.string nm, .int .i64 R, .slice A2 n2 c2, .slice A3 B.length c3]) (t := 25) ?hr ?_; (case hd => rfl); (case hg => rfl); (case hr => first | (go_simp; done) | (go_simp; rfl)); intro g1 hg1 w1 hbox1 hbw1; obtain ⟨z0, z1, z2, z3⟩ := cells4 hbox1; have BK1 := Lib.hid hbox1; have HBW1 := Lib.hid hbw1; have HG1 := Lib.hid hg1; clear hbox1 hbw1 hg1)
    | ((with_reducible refine gate_dst (N := 2) rfl ?_); refine box_event ?hg (N := 2) ?hd (cs := #[.string ⟨#[]⟩, .int .i64 0, .slice none 0 0, .slice none 0 0]) (t := 36) ?hr ?_; (case hd => rfl); (case hg => rfl); (case hr => first | (go_simp; done) | (go_simp; rfl)); intro g2 hg2 w2 hbox2 hbw2; have BK2 := Lib.hid hbox2; have BK12 := Lib.hid (heap_below BK1.out hbw2); have HBW2 := Lib.hid hbw2; have HG2 := Lib.hid hg2; clear hbox2 hbw2 hg2 z0 z1 z2 z3; obtain ⟨z0, z1, z2, z3⟩ := cells4 BK12.out)
    | ((with_reducible refine gate_dst (N := 3) rfl ?_); refine box_event ?hg (N := 3) ?hd (cs := #[.string ⟨#[]⟩, .int .i64 0, .slice none 0 0, .slice none 0 0]) (t := 36) ?hr ?_; (case hd => rfl); (case hg => rfl); (case hr => first | (go_simp; done) | (go_simp; rfl)); intro g3 hg3 w3 hbox3 hbw3; have BK3 := Lib.hid hbox3; have HBW3 := Lib.hid hbw3; have HG3 := Lib.hid hg3; have f0 := blk_frozen hbox3 0; have f1 := blk_frozen hbox3 1; have f2 := blk_frozen hbox3 2; have f3 := blk_frozen hbox3 3; obtain ⟨y0, y1, y2, y3⟩ := cells4 hbox3; clear hbox3 hbw3 hg3)
    | fail)
  have hg3l : w.heap.size ≤ g3 := by rw [HG3.out]; exact (HBW1.out.trans (HBW2.out.mono HBW1.out.size)).size
  have hg2l : w.heap.size ≤ g2 := by rw [HG2.out]; exact HBW1.out.size
  obtain ⟨w4, hw4⟩ : ∃ w4, w4 = ((((w3.setCell ⟨g3, 0, none⟩ (.string nm)).setCell ⟨g3, 1, none⟩ (.int .i64 R)).setCell ⟨g3, 2, none⟩ (.slice A2 n2 c2)).setCell ⟨g3, 3, none⟩ (.slice none 0 0)) := ⟨_, rfl⟩
  rw [← hw4]
  have hb03 : Below w.heap.size w w3 := HBW1.out.trans ((HBW2.out.trans (HBW3.out.mono HBW2.out.size)).mono HBW1.out.size)
  have hb4 : Below w.heap.size w w4 := by
    rw [hw4]
    exact ((((hb03).setCell (p := ⟨g3, 0, none⟩) hg3l _).setCell (p := ⟨g3, 1, none⟩) hg3l _).setCell (p := ⟨g3, 2, none⟩) hg3l _).setCell (p := ⟨g3, 3, none⟩) hg3l _
  have hk3 : w4.heap[g3]? = some (.cells #[.string nm, .int .i64 R, .slice A2 n2 c2, .slice none 0 0] 36 (0, 0)) := by rw [hw4]; exact blk_four BK3.out _ _ _ _
  have hbw2' : Below w2.heap.size w2 w4 := by
    rw [hw4]
    have hg3' : w2.heap.size ≤ g3 := by rw [HG3.out]; exact Nat.le_refl _
    exact ((((HBW3.out).setCell (p := ⟨g3, 0, none⟩) hg3' _).setCell (p := ⟨g3, 1, none⟩) hg3' _).setCell (p := ⟨g3, 2, none⟩) hg3' _).setCell (p := ⟨g3, 3, none⟩) hg3' _
  have hk1 := heap_below BK12.out hbw2'
  have hk2 := heap_below BK2.out hbw2'
  have h23 : g2 ≠ g3 := by have := heap_lt BK2.out; rw [HG3.out]; omega
  have HB4 := Lib.hid hb4
  have HK1 := Lib.hid hk1
  have HK2 := Lib.hid hk2
  have HK3 := Lib.hid hk3
  have H23 := Lib.hid h23
  have HG2L := Lib.hid hg2l
  have HG3L := Lib.hid hg3l
  clear hw4 hb03 hb4 hk3 hbw2' hk1 hk2 h23 hg2l hg3l HG1 HG2 HG3 BK1 BK2 BK3 BK12 HBW1 HBW2 HBW3 z0 z1 z2 z3 y0 y1 y2 y3 f0 f1 f2 f3
  go_wp2
  go_loopw [4] (fun v wr => ∃ (i : Nat) (v3 : Value), i ≤ B.length ∧ v = .int .i64 i ∧ k79.R 79 wr w.heap.size (fun _ => True) v3 ((B.take i).map refB) ∧ wr.heap[g1]? = some (.cells #[.string nm, .int .i64 R, .slice A2 n2 c2, .slice A3 B.length c3] 25 (0, 0)) ∧ wr.heap[g2]? = some (.cells #[.string ⟨#[]⟩, .int .i64 0, .slice none 0 0, .slice none 0 0] 36 (0, 0)) ∧ wr.heap[g3]? = some (.cells #[.string nm, .int .i64 R, .slice A2 n2 c2, v3] 36 (0, 0)) ∧ Below w.heap.size w wr) (fun v _ => B.length - (intOf v).toNat)
  case atStart => exact ⟨0, _, Nat.zero_le _, rfl, Kd.R_nil _ _ _ _ _, HK1.out, HK2.out, HK3.out, HB4.out⟩
  case round =>
    clear HK1 HK2 HK3 HB4
    obtain ⟨i, v3, hi, rfl, hR3, hk1, hk2, hk3, hb⟩ := hrel
    obtain ⟨wo, rfl⟩ : ∃ wo, wo = wr := ⟨_, rfl⟩
    obtain ⟨z0, z1, z2, z3⟩ := cells4 hk1
    obtain ⟨y0, y1, y2, y3⟩ := cells4 hk3
    by_cases hlt : i < B.length
    · obtain ⟨ad, A0, c0, hA3, q0, q1, q2, q3, q4, hl0, hC0⟩ := at_T43 (Kd.C_below HC3.out hb) (i : Int) (by omega) (by omega)
      subst hA3
      rw [Int.toNat_natCast] at q0 q1 q2 q3 q4
      have hrd : rd_T43 B (i : Int) = B.getD i z43 := by unfold rd_T43; rw [Int.toNat_natCast]
      rw [hrd] at q0 q1 q2 q3 q4 hl0 hC0
      have hmem := memB hlt
      have hstep : (B.take (i + 1)).map refB = (B.take i).map refB ++ [refB (B.getD i z43)] := by
        rw [List.take_succ_eq_append_getElem hlt, List.map_append, List.getD_eq_getElem?_getD, List.getElem?_eq_getElem hlt]; rfl
      obtain ⟨x, hx⟩ : ∃ x, x = B.getD i z43 := ⟨_, rfl⟩
      rw [← hx] at q0 q1 q2 q3 q4 hl0 hC0 hstep hmem
      have hcl := HCO.out x hmem
      have q1' : wo.cell? ⟨(ad.add (i * 5)).block, (ad.add (i * 5)).off + 1, none⟩ = some (.int .u8 x.f1) := q1
      have q2' : wo.cell? ⟨(ad.add (i * 5)).block, (ad.add (i * 5)).off + 2, none⟩ = some (.int .i64 x.f2) := q2
      have q3' : wo.cell? ⟨(ad.add (i * 5)).block, (ad.add (i * 5)).off + 3, none⟩ = some (.int .i64 x.f3) := q3
      have q4' : wo.cell? ⟨(ad.add (i * 5)).block, (ad.add (i * 5)).off + 4, none⟩ = some (.int .i64 x.f4) := q4
      have HC0 := Lib.hid hC0
      have HST := Lib.hid hstep
      have HR3 := Lib.hid hR3
      have HK1 := Lib.hid hk1
      have HK2 := Lib.hid hk2
      have HK3 := Lib.hid hk3
      have HB := Lib.hid hb
      clear hC0 hstep hR3 hk1 hk2 hk3 hb hrd hx hmem q1 q2 q3 q4 y0 y1 y2 y3
      go_upto_region 6 with (first
        | ((with_reducible refine gate_dst (N := 5) rfl ?_); refine box_event ?hg (N := 5) ?hd (cs := #[.slice none 0 0, .int .u8 0, .int .i64 0, .int .i64 0, .int .i64 0]) (t := 43) ?hr ?_; (case hd => rfl); (case hg => rfl); (case hr => first | (go_simp; done) | (go_simp; rfl)); intro g5 hg5 w5 hbox5 hbw5; obtain ⟨y0, y1, y2, y3, y4⟩ := cells5 hbox5; have f0 := blk_frozen hbox5 0; have f1 := blk_frozen hbox5 1; have f2 := blk_frozen hbox5 2; have f3 := blk_frozen hbox5 3; have f4 := blk_frozen hbox5 4; have BK5 := Lib.hid hbox5; have HBW5 := Lib.hid hbw5; have HG5 := Lib.hid hg5; clear hbox5 hbw5 hg5)
        | fail)
      have hg5l : wo.heap.size ≤ g5 := by rw [HG5.out]; exact Nat.le_refl _
      obtain ⟨w6, hw6⟩ : ∃ w6, w6 = (((((w5.setCell ⟨g5, 0, none⟩ (.slice A0 x.f0.length c0)).setCell ⟨g5, 1, none⟩ (.int .u8 x.f1)).setCell ⟨g5, 2, none⟩ (.int .i64 x.f2)).setCell ⟨g5, 3, none⟩ (.int .i64 x.f3)).setCell ⟨g5, 4, none⟩ (.int .i64 x.f4)) := ⟨_, rfl⟩
      have hb6 : Below wo.heap.size wo w6 := by
        rw [hw6]
        exact ((((HBW5.out.setCell (p := ⟨g5, 0, none⟩) hg5l _).setCell (p := ⟨g5, 1, none⟩) hg5l _).setCell (p := ⟨g5, 2, none⟩) hg5l _).setCell (p := ⟨g5, 3, none⟩) hg5l _).setCell (p := ⟨g5, 4, none⟩) hg5l _
      have hk6 : w6.heap[g5]? = some (.cells #[.slice A0 x.f0.length c0, .int .u8 x.f1, .int .i64 x.f2, .int .i64 x.f3, .int .i64 x.f4] 43 (0, 0)) := by rw [hw6]; exact blk_five BK5.out _ _ _ _ _
      rw [← hw6]
      have HB6 := Lib.hid hb6
      have HK56 := Lib.hid hk6
      clear hw6 hb6 hk6 hg5l y0 y1 y2 y3 y4 f0 f1 f2 f3 f4 q0 q1' q2' q3' q4' BK5 HBW5 HG5 z0 z1 z2 z3
      obtain ⟨y0, y1, y2, y3, y4⟩ := cells5 HK56.out
      go_upto_region 7 with (first
        | ((with_reducible refine gate_dst (N := 6) rfl ?_); refine box_event ?hg (N := 6) ?hd (cs := #[.slice none 0 0, .int .u8 0, .int .i64 0, .int .i64 0, .int .i64 0]) (t := 79) ?hr ?_; (case hd => rfl); (case hg => rfl); (case hr => first | (go_simp; done) | (go_simp; rfl)); intro g6 hg6 w7 hbox7 hbw7; obtain ⟨s0, s1, s2, s3, s4⟩ := cells5 hbox7; have f0 := blk_frozen hbox7 0; have f1 := blk_frozen hbox7 1; have f2 := blk_frozen hbox7 2; have f3 := blk_frozen hbox7 3; have f4 := blk_frozen hbox7 4; have BK7 := Lib.hid hbox7; have HBW7 := Lib.hid hbw7; have HG6 := Lib.hid hg6; clear hbox7 hbw7 hg6)
        | fail)
      have hg6l : w6.heap.size ≤ g6 := by rw [HG6.out]; exact Nat.le_refl _
      obtain ⟨w8, hw8⟩ : ∃ w8, w8 = (((((w7.setCell ⟨g6, 0, none⟩ (.slice none 0 0)).setCell ⟨g6, 1, none⟩ (.int .u8 x.f1)).setCell ⟨g6, 2, none⟩ (.int .i64 x.f2)).setCell ⟨g6, 3, none⟩ (.int .i64 x.f3)).setCell ⟨g6, 4, none⟩ (.int .i64 x.f4)) := ⟨_, rfl⟩
      have hb8 : Below w6.heap.size w6 w8 := by
        rw [hw8]
        exact ((((HBW7.out.setCell (p := ⟨g6, 0, none⟩) hg6l _).setCell (p := ⟨g6, 1, none⟩) hg6l _).setCell (p := ⟨g6, 2, none⟩) hg6l _).setCell (p := ⟨g6, 3, none⟩) hg6l _).setCell (p := ⟨g6, 4, none⟩) hg6l _
      have hk8 : w8.heap[g6]? = some (.cells #[.slice none 0 0, .int .u8 x.f1, .int .i64 x.f2, .int .i64 x.f3, .int .i64 x.f4] 79 (0, 0)) := by rw [hw8]; exact blk_five BK7.out _ _ _ _ _
      rw [← hw8]
      have hb08 : Below wo.heap.size wo w8 := HB6.out.trans (hb8.mono HB6.out.size)
      have HB08 := Lib.hid hb08
      have HK58 := Lib.hid (heap_below HK56.out hb8)
      have HK8 := Lib.hid hk8
      have h56 : g5 ≠ g6 := by have := heap_lt HK56.out; omega
      have h6w : wo.heap.size ≤ g6 := Nat.le_trans HB6.out.size hg6l
      have H56 := Lib.hid h56
      have H6W := Lib.hid h6w
      clear hw8 hb8 hk8 hb08 h56 hg6l h6w y0 y1 y2 y3 y4 s0 s1 s2 s3 s4 f0 f1 f2 f3 f4 BK7 HBW7 HG6 HB6 HK56
      go_wp2
      go_loopw [7] (fun v wq => ∃ (j : Nat) (v6 : Value), j ≤ x.f0.length ∧ v = .int .i64 j ∧ k80.R 80 wq w8.heap.size (fun _ => True) v6 ((x.f0.take j).map refI) ∧ wq.heap[g6]? = some (.cells #[v6, .int .u8 x.f1, .int .i64 x.f2, .int .i64 x.f3, .int .i64 x.f4] 79 (0, 0)) ∧ Kept w8 wq (fun k => k = g6) ∧ Below wo.heap.size wo wq) (fun v _ => x.f0.length - (intOf v).toNat)
      case atStart => exact ⟨0, _, Nat.zero_le _, rfl, Kd.R_nil _ _ _ _ _, HK8.out, Kept.refl _ _, HB08.out⟩
      case round =>
        obtain ⟨j, v6, hj, rfl, hR6, hk6, hkq, hbq⟩ := hrel
        obtain ⟨wq, rfl⟩ : ∃ wq, wq = wr := ⟨_, rfl⟩
        have hk5 : wq.heap[g5]? = _ := (hkq.2 g5 (heap_lt HK58.out) H56.out).trans HK58.out
        obtain ⟨y0, y1, y2, y3, y4⟩ := cells5 hk5
        obtain ⟨s0, s1, s2, s3, s4⟩ := cells5 hk6
        by_cases hjl : j < x.f0.length
        · obtain ⟨ax, hA0, i0, i1, i2, i3, i4, i5⟩ := at_T62 HC0.out (j : Int) (by omega) (by omega)
          subst hA0
          rw [Int.toNat_natCast] at i0 i1 i2 i3 i4 i5
          have hrd : rd_T62 x.f0 (j : Int) = x.f0.getD j z62 := by unfold rd_T62; rw [Int.toNat_natCast]
          rw [hrd] at i0 i1 i2 i3 i4 i5
          have hst : (x.f0.take (j + 1)).map refI = (x.f0.take j).map refI ++ [refI (x.f0.getD j z62)] := by
            rw [List.take_succ_eq_append_getElem hjl, List.map_append, List.getD_eq_getElem?_getD, List.getElem?_eq_getElem hjl]; rfl
          have hjn : ((x.f0.take j).map refI).length ≤ 1000 := by rw [List.length_map, List.length_take]; omega
          obtain ⟨y, hy⟩ : ∃ y, y = x.f0.getD j z62 := ⟨_, rfl⟩
          rw [← hy] at i0 i1 i2 i3 i4 i5 hst
          obtain ⟨cds, hcds⟩ : ∃ cds, cds = (x.f0.take j).map refI := ⟨_, rfl⟩
          rw [← hcds] at hR6 hst hjn
          obtain ⟨px, hpx⟩ : ∃ px, px = ax.add (j * 6) := ⟨_, rfl⟩
          rw [← hpx] at i0 i1 i2 i3 i4 i5
          have hpl : px.block < wo.heap.size := World.block_lt_of_cell? wo _ i0
          have hpg : px.block ≠ g6 := by have := H6W.out; omega
          have hsix := six_up (hbq.block px.block hpl) ⟨i0, i1, i2, i3, i4, i5⟩
          have hsixa := six_up (Below.heap_alloc wq (.cells #[.int .u8 y.f0, .int .i64 y.f1, .int .i64 y.f2, .int .i64 y.f3, .int .i64 y.f4, .string y.f5] 80) px.block (by have := hbq.size; omega)) hsix
          have hsy := hbq.size
          have hn5 : some g5 ≠ v6.ownBlock := fun e => by have h1 := Kd.R_base hR6 g5 e.symm; have h2 := heap_lt HK58.out; omega
          have hn6 : some g6 ≠ v6.ownBlock := fun e => by have h1 := Kd.R_base hR6 g6 e.symm; have h2 := heap_lt HK8.out; omega
          have hnp : some px.block ≠ v6.ownBlock := fun e => by have h1 := Kd.R_base hR6 px.block e.symm; have h2 := HB08.out.size; omega
          have hl5 := heap_lt hk5
          have hl6 := heap_lt hk6
          have HSIX := Lib.hid hsix
          have HSI := Lib.hid hst
          have HR6 := Lib.hid hR6
          have HK5 := Lib.hid hk5
          have HK6 := Lib.hid hk6
          have HKQ := Lib.hid hkq
          have HBQ := Lib.hid hbq
          obtain ⟨i0', i1', i2', i3', i4', i5'⟩ := hsix
          obtain ⟨j0, j1, j2, j3, j4, j5⟩ := hsixa
          have y0a := cell_up y0 ((Below.refl wq.heap.size wq).alloc (Nat.le_refl _) (.cells #[.int .u8 y.f0, .int .i64 y.f1, .int .i64 y.f2, .int .i64 y.f3, .int .i64 y.f4, .string y.f5] 80))
          have s0a := cell_up s0 ((Below.refl wq.heap.size wq).alloc (Nat.le_refl _) (.cells #[.int .u8 y.f0, .int .i64 y.f1, .int .i64 y.f2, .int .i64 y.f3, .int .i64 y.f4, .string y.f5] 80))
          clear hst hR6 hk6 hkq hbq hk5 hy hcds hrd i0 i1 i2 i3 i4 i5
          go_upto_region 10 with fail
          subst hpx
          have HRD := Lib.hid (Kd.R_below HR6.out (Below.refl _ wq).drew)
          have hb8q : w8.heap.size ≤ wq.drew.heap.size := HKQ.out.1
          go_region_law
            (first
            | (refine step_code (w8 := wq.drew) v6 cds y rfl _ _ rfl rfl rfl HRD.out hjn hb8q ?_; intro v9 w9 hR9 hg9; obtain ⟨A9, c9, rfl⟩ := Kd.R_slice hR9; have h6 := hg9.block (ax.add (j * 6)).block (Nat.lt_of_lt_of_le hpl hsy) hnp; obtain ⟨k0, k1, k2, k3, k4, k5⟩ := six_up h6 HSIX.out; have k5b := (hg9.block g5 hl5 hn5).trans HK5.out; have k6b := (hg9.block g6 hl6 hn6).trans HK6.out; have n5 := (blk_cell k5b 0).trans rfl; have n6 := (blk_cell k6b 0).trans rfl; have fr := blk_frozen k6b 0; obtain ⟨t0, t1, t2, t3, t4, t5⟩ := six_up (Below.heap_setCell w9 ⟨g6, 0, none⟩ (.slice A9 (cds.length + 1) c9) (ax.add (j * 6)).block hpg) ⟨k0, k1, k2, k3, k4, k5⟩; have o5 := (World.cell?_of_block (a := ⟨g5, 0, none⟩) (Below.heap_setCell w9 ⟨g6, 0, none⟩ (.slice A9 (cds.length + 1) c9) g5 H56.out)).trans n5; have HK9 := Lib.hid k6b; have HR9 := Lib.hid hR9; have HG9 := Lib.hid hg9; clear hR9 hg9 h6 k5b k6b)
            | fail)
          all_goals
            have hty : ∀ q, q ∈ 80 :: k80.E → q ≠ 79 := by decide
            have HX1 := Lib.hid (Kd.R_set HR9.out HK9.out hty 0 (.slice A9 (cds.length + 1) c9))
            have HX2 := Lib.hid (blk_put HK9.out 0 (.slice A9 (cds.length + 1) c9) rfl)
            have HX3 := Lib.hid (((HKQ.out.drew).of_grown HG9.out (fun k hk => .inr (Kd.R_base HR6.out k hk))).setCell (p := ⟨g6, 0, none⟩) (.inl rfl) (.slice A9 (cds.length + 1) c9))
            have HX4 := Lib.hid ((HBQ.out.drew.grown HG9.out HBQ.out.size (fun k hk => Nat.le_trans HB08.out.size (Kd.R_base HR6.out k hk))).setCell (p := ⟨g6, 0, none⟩) H6W.out (.slice A9 (cds.length + 1) c9))
            clear hty
            rw [show (cds ++ [refI y]).length = cds.length + 1 by simp] at HX1
            go_wp2_with fail
            go_roundw
            case rel => exact ⟨j + 1, _, by omega, by go_num, HSI.out ▸ HX1.out, HX2.out, HX3.out, HX4.out⟩
            case measure => simp [intOf]; omega
        · have e : j = x.f0.length := by omega
          rw [e, List.take_length] at hR6
          subst e
          obtain ⟨A6, c6, rfl⟩ := Kd.R_slice hR6
          rw [List.length_map] at hR6 hk6 s0
          have hlt8 := HB08.out.size
          have hww := HB.out.size
          have hk3q := heap_below HK3.out hbq
          obtain ⟨z0, z1, z2, z3⟩ := cells4 hk3q
          have f3 := blk_frozen hk3q 3
          have HI := Lib.hid (show (Try.prog.info? 79).map (fun i => (i.zero, i.size, i.bytes)) = some (some (.agg #[.slice none 0 0, .int .u8 0, .int .i64 0, .int .i64 0, .int .i64 0]), 5, 56) by kernel_rfl)
          have HP := Lib.hid (k79_mkM wq w.heap.size (fun k => w8.heap.size ≤ k) (refB x) (Kd.R_lower (Kd.R_mono (Kd.R_bound hR6) (fun k hk => hk.2.1)) (Nat.le_trans hww hlt8)))
          have HOKP := Lib.hid (show ∀ k, w8.heap.size ≤ k → True ∧ some k ≠ v3.ownBlock from fun k hk => ⟨trivial, fun e => by have := Kd.R_lt HR3.out k e.symm; omega⟩)
          have HO := Lib.hid (Kd.R_below HR3.out hbq)
          have HBQ := Lib.hid (HB.out.trans (hbq.mono HB.out.size))
          have HBO := Lib.hid hbq
          have hli : (((B.take i).map refB).length + 1) * 56 ≤ 140737488355328 := by rw [List.length_map, List.length_take]; omega
          have HK3Q := Lib.hid hk3q
          clear hk3q hk6 hkq hk5 hbq hR6
          go_wp2_with (first
            | (at_builtin; refine Kd.R_append k79 (w0 := w) w.heap.size rfl _ _ 34 79 _ 56 rfl Try.underlying34 HI.out rfl (by decide) (by decide) v3 ((B.take i).map refB) (refB x) [.slice A6 x.f0.length c6, .int .u8 x.f1, .int .i64 x.f2, .int .i64 x.f3, .int .i64 x.f4] (fun _ => True) (fun k => w8.heap.size ≤ k) rfl rfl HP.out HOKP.out (fun _ _ => trivial) HO.out HBQ.out HBQ.out.size hli ?_; intro v9 w9 hR9 hb9 hg9 _; obtain ⟨A9, c9, rfl⟩ := Kd.R_slice hR9; have hne3 := Kd.R_ne HO.out HK3Q.out (by decide); have k3 := (hg9.block g3 (heap_lt HK3Q.out) hne3).trans HK3Q.out; obtain ⟨t0, t1, t2, t3⟩ := cells4 k3; have f3' := blk_frozen k3 3; have HK39 := Lib.hid k3; have HR9 := Lib.hid hR9; have HG9 := Lib.hid hg9; have HB9 := Lib.hid hb9; clear hR9 hg9 hb9 k3)
            | fail)
          have hln : ((B.take i).map refB ++ [refB x]).length = i + 1 := by rw [List.length_append, List.length_map, List.length_take, List.length_singleton]; omega
          rw [hln] at HR9
          have hty : ∀ q, q ∈ 79 :: k79.E → q ≠ 36 := by decide
          have h1q := heap_below HK1.out HBO.out
          have h2q := heap_below HK2.out HBO.out
          have h1n := (HG9.out.block g1 (heap_lt h1q) (Kd.R_ne HO.out h1q (by decide))).trans h1q
          have h2n := (HG9.out.block g2 (heap_lt h2q) (Kd.R_ne HO.out h2q (by decide))).trans h2q
          have h13 : g1 ≠ g3 := blk_ne HK1.out HK3.out (by decide)
          have HX1 := Lib.hid (Kd.R_set HR9.out HK39.out hty 3 (.slice A9 (i + 1) c9))
          have HX2 := Lib.hid ((Below.heap_setCell w9 ⟨g3, 3, none⟩ (.slice A9 (i + 1) c9) g1 h13).trans h1n)
          have HX3 := Lib.hid ((Below.heap_setCell w9 ⟨g3, 3, none⟩ (.slice A9 (i + 1) c9) g2 H23.out).trans h2n)
          have HX4 := Lib.hid (blk_put HK39.out 3 (.slice A9 (i + 1) c9) rfl)
          have HX5 := Lib.hid (HB9.out.setCell (p := ⟨g3, 3, none⟩) HG3L.out (.slice A9 (i + 1) c9))
          clear hty h1q h2q h1n h2n h13 hln
          go_roundw
          case rel => exact ⟨i + 1, _, by omega, by go_num, HST.out ▸ HX1.out, HX2.out, HX3.out, HX4.out, HX5.out⟩
          case measure => simp [intOf]; omega
    · have e : i = B.length := by omega
      rw [e, List.take_length] at hR3
      subst e
      obtain ⟨A, c, rfl, hl, hC⟩ := Kd.R_reads hR3
      rw [List.length_map] at *
      have f0 := blk_frozen hk2 0
      have f1 := blk_frozen hk2 1
      have f2 := blk_frozen hk2 2
      have f3 := blk_frozen hk2 3
      obtain ⟨x0, x1, x2, x3⟩ := cells4 hk2
      have HC := Lib.hid hC
      have HR3 := Lib.hid hR3
      have HB := Lib.hid hb
      have HK2 := Lib.hid hk2
      clear hC hR3 hb hk2 hk1 hk3
      go_wp2
      have hty : ∀ q, q ∈ 79 :: k79.E → q ≠ 36 := by decide
      have hkz := blk_four HK2.out (.string nm) (.int .i64 R) (.slice A2 n2 c2) (.slice A B.length c)
      have hR4 := Kd.R_set (Kd.R_set (Kd.R_set (Kd.R_set HR3.out HK2.out hty 0 (.string nm)) (blk_put HK2.out 0 (.string nm) rfl) hty 1 (.int .i64 R)) (blk_put (blk_put HK2.out 0 (.string nm) rfl) 1 (.int .i64 R) rfl) hty 2 (.slice A2 n2 c2)) (blk_put (blk_put (blk_put HK2.out 0 (.string nm) rfl) 1 (.int .i64 R) rfl) 2 (.slice A2 n2 c2) rfl) hty 3 (.slice A B.length c)
      have HBZ := Lib.hid ((((HB.out.setCell (p := ⟨g2, 0, none⟩) HG2L.out (.string nm)).setCell (p := ⟨g2, 1, none⟩) HG2L.out (.int .i64 R)).setCell (p := ⟨g2, 2, none⟩) HG2L.out (.slice A2 n2 c2)).setCell (p := ⟨g2, 3, none⟩) HG2L.out (.slice A B.length c))
      obtain ⟨wz, hwz⟩ : ∃ wz, wz = ((((wo.setCell ⟨g2, 0, none⟩ (.string nm)).setCell ⟨g2, 1, none⟩ (.int .i64 R)).setCell ⟨g2, 2, none⟩ (.slice A2 n2 c2)).setCell ⟨g2, 3, none⟩ (.slice A B.length c)) := ⟨_, rfl⟩
      rw [← hwz] at hkz hR4 HBZ ⊢
      have HRZ := Lib.hid hR4
      clear hwz hR4 hty x0 x1 x2 x3 f0 f1 f2 f3 z0 z1 z2 z3 y0 y1 y2 y3
      obtain ⟨x0, x1, x2, x3⟩ := cells4 hkz
      (try simp only [Exit.inBlock, Exit.then])
      refine bodyPost_ret (v := .agg #[.string nm, .int .i64 R, .slice A2 n2 c2, .slice A B.length c]) ?hr rfl ?_
      case hr =>
        unfold results
        rw [show Try.f11.results = #[.cell 2 36] from rfl]
        simp
        go_simp
      obtain ⟨_, hlz, hCz⟩ := Kd.R_reads' HRZ.out
      rw [List.length_map] at hCz
      exact ⟨A, c, rfl, hlz, hCz, HBZ.out⟩
end Go.Proofs.Ythgodpmahdnnjaa
end
section
namespace Go.Proofs.Ythgodpmahdnnjaa
open Go.RowKit Go.Proofs.YthgodpmahdnnjaaW.PrintWords Go.Proofs.YthgodpmahdnnjaaW.PrintMore Go.Proofs.Ythgodpmahdnnjaa.H
theorem mem_listN {m r : Nat} {N : Nat} (hN : N ≤ 40) (hm : m < 2 ^ N) : (r : Int) ∈ listN m ↔ m.testBit r = true := by
  unfold listN
  constructor
  · intro h
    obtain ⟨a, ha, he⟩ := List.mem_map.1 h
    have : a = r := by omega
    subst this
    exact (List.mem_filter.1 ha).2
  · intro h
    refine List.mem_map.2 ⟨r, List.mem_filter.2 ⟨List.mem_range.2 ?_, h⟩, rfl⟩
    rcases Nat.lt_or_ge r N with h1 | h1
    · omega
    · rw [Nat.testBit_lt_two_pow (Nat.lt_of_lt_of_le hm (Nat.pow_le_pow_right (by decide) h1))] at h; cases h
theorem addL_listN {m N : Nat} (hN : N ≤ 40) (hm : m < 2 ^ N) : addL 0 (regsIn N (listN m)) = m := by
  apply Nat.eq_of_testBit_eq
  intro r
  have h0 : ∀ q ∈ regsIn N (listN m), 0 ≤ q := fun q hq => (listN_mem hm (List.mem_filter.1 hq).1).1
  rw [addL_bit _ _ _ h0, Nat.zero_testBit, Bool.false_or, Bool.eq_iff_iff, List.contains_iff_mem, ← mem_listN hN hm]
  unfold regsIn
  constructor
  · exact fun h => (List.mem_filter.1 h).1
  · intro h
    have := listN_mem hm h
    exact List.mem_filter.2 ⟨h, by simp; omega⟩
section
variable {nm : ByteArray} {ar : List S107} {B : List S43} {N : Nat} {I O : Nat → Nat}
theorem bef_pt (hB : OkF N B) (hN : N ≤ 30) (h : SI N B I O []) {b i : Nat} (hb : b < B.length) (hi : i ≤ (B.getD b z43).f0.length) :
    befoR N B (lstN O B.length) b i = listN (((B.getD b z43).f0.drop i).foldr befN (endN (B.getD b z43) (O b))) := by
  have hw : wfB N B = true := (wfB_iff N B).2 ⟨N, rfl, by omega, hB⟩
  unfold befoR
  rw [if_pos ⟨hw, by omega, by omega, by rw [lstN_length]; omega, by omega, by rw [Int.toNat_natCast]; omega⟩, Int.toNat_natCast, Int.toNat_natCast, Int.toNat_natCast, lstN_get O hb, addL_listN (by omega) (h.lt b hb).2]
end
section
variable {w0 : World} {nm : ByteArray} {N : Nat} {A2 : Option Addr} {ar : List S107} {c2 : Nat} {A3 : Option Addr} {c3 : Nat} {B : List S43} {Ai : Option Addr} {ci : Nat} {Ao : Option Addr} {co : Nat} {Am : Option Addr} {cm : Nat} {I O : Nat → Nat} {gf gs gm : Nat} {W W1 : World}
end
end Go.Proofs.Ythgodpmahdnnjaa
end
section
namespace Go.Proofs.Ythgodpmahdnnjaa
open Go.RowKit Go.Proofs.YthgodpmahdnnjaaW.PrintWords Go.Proofs.YthgodpmahdnnjaaW.PrintMore Go.Proofs.Ythgodpmahdnnjaa.H
def zI : S62 := ⟨13, 0, 0, 0, 0, ⟨#[]⟩⟩
def pureB (r : Int) (i : S62) : Bool := (shp i.f0).1 && (i.f1 == r) && (usesL i).isEmpty
def repl (r : Int) (i : S62) : S62 := if pureB r i then zI else i
def replB (r : Int) (b : S43) : S43 := ⟨b.f0.map (repl r), b.f1, b.f2, b.f3, b.f4⟩
theorem zI_d : (shp zI.f0).1 = false := by decide
theorem zI_u : usesL zI = [] := by decide
theorem zI_ok (R : Nat) : OkI R zI := ⟨by decide, by decide, (fun h => by rw [zI_d] at h; cases h), (fun q hq => by rw [zI_u] at hq; cases hq)⟩
theorem repl_ok {R : Nat} {r : Int} {i : S62} (h : OkI R i) : OkI R (repl r i) := by
  unfold repl
  split
  · exact zI_ok R
  · exact h
theorem repl_okF {R : Nat} {r : Int} {B : List S43} (h : OkF R B) : OkF R (B.map (replB r)) := by
  refine ⟨fun e => h.ne (List.map_eq_nil_iff.1 e), fun b hb => ?_⟩
  obtain ⟨b0, hb0, rfl⟩ := List.mem_map.1 hb
  have h0 := h.b b0 hb0
  refine ⟨fun i hi => ?_, h0.lo, h0.hi, h0.x, fun t ht => by rw [List.length_map]; exact h0.succ t ht⟩
  obtain ⟨j, hj, rfl⟩ := List.mem_map.1 hi
  exact repl_ok (h0.code j hj)
theorem repl_getD (r : Int) (B : List S43) {b : Nat} (hb : b < B.length) : (B.map (replB r)).getD b z43 = replB r (B.getD b z43) := by
  simp [List.getD_eq_getElem?_getD, hb]
theorem goes_repl (b : S43) (r : Nat) : ∀ l : List S62, ((goes b r l).1 = true → (goes (replB r b) r (l.map (repl r))).1 = true) ∧ ((goes b r l).2 = true → (goes (replB r b) r (l.map (repl r))).2 = true)
  | [] => by
    have e : goes (replB r b) r [] = goes b r [] := rfl
    rw [List.map_nil, e]
    exact ⟨id, id⟩
  | i :: l => by
    have ih := goes_repl b r l
    have e : goes b r (i :: l) = if usesB i r then (true, false) else if defB i r then (false, false) else goes b r l := rfl
    have e2 : goes (replB r b) r ((i :: l).map (repl r)) = if usesB (repl r i) r then (true, false) else if defB (repl r i) r then (false, false) else goes (replB r b) r (l.map (repl r)) := rfl
    have er : repl r i = if pureB r i then zI else i := rfl
    rw [e, e2, er]
    cases hp : pureB r i with
    | true =>
      have h1 : usesB i r = false := by
        unfold pureB at hp
        simp only [Bool.and_eq_true] at hp
        unfold usesB
        rw [List.isEmpty_iff.1 hp.2]; rfl
      have h2 : defB i r = true := by
        unfold pureB at hp
        simp only [Bool.and_eq_true] at hp
        unfold defB
        rw [hp.1.1, hp.1.2]; rfl
      rw [h1, h2]
      simp
    | false =>
      simp only [Bool.false_eq_true, if_false]
      cases usesB i r
      · cases defB i r
        · simpa using ih
        · simp
      · simp
def useI (r : Int) (i : S62) : Bool := (usesL i).contains r
def useX (r : Int) (b : S43) : Bool := b.f1 == 2 && (b.f2 == r)
def usedIn (r : Int) (b : S43) : Bool := useX r b || b.f0.any (useI r)
def usedB (r : Int) (B : List S43) : Bool := B.any (usedIn r)
theorem goes_used (b : S43) (r : Nat) : ∀ l : List S62, (goes b r l).1 = true → (useX (r : Int) b || l.any (useI (r : Int))) = true
  | [], h => by
    unfold goes at h
    unfold useX
    cases hx : (b.f1 == 2 && (b.f2 == (r : Int)))
    · rw [hx] at h; simp at h
    · simp
  | i :: l, h => by
    have e : goes b r (i :: l) = if usesB i r then (true, false) else if defB i r then (false, false) else goes b r l := rfl
    rw [e] at h
    rw [List.any_cons]
    cases hu : usesB i r with
    | true =>
      have : useI (r : Int) i = true := hu
      rw [this]; simp
    | false =>
      rw [hu] at h
      cases hd : defB i r with
      | true => rw [hd] at h; simp at h
      | false =>
        rw [hd] at h
        have := goes_used b r l (by simpa using h)
        rw [Bool.or_eq_true] at this
        rcases this with h1 | h1 <;> simp [h1]
theorem used_of {B : List S43} {r t : Nat} (ht : t < B.length) (l : List S62) (hl : ∀ j ∈ l, j ∈ (B.getD t z43).f0) (h : (goes (B.getD t z43) r l).1 = true) : usedB (r : Int) B = true := by
  refine List.any_eq_true.2 ⟨_, memB ht, ?_⟩
  have := goes_used _ r l h
  unfold usedIn
  rw [Bool.or_eq_true] at this ⊢
  refine this.imp id fun h => ?_
  obtain ⟨x, hx, hy⟩ := List.any_eq_true.1 h
  exact List.any_eq_true.2 ⟨x, hl x hx, hy⟩
theorem succ_lt {R : Nat} {B : List S43} (h : OkF R B) {b t : Nat} (hb : b < B.length) (ht : (t : Int) ∈ succL (B.getD b z43)) : t < B.length := by
  have := (h.b _ (memB hb)).succ _ ht
  omega
theorem LO_repl {R : Nat} {B : List S43} (h : OkF R B) {r b : Nat} (hl : LO B r b) : b < B.length → usedB (r : Int) B = true ∧ LO (B.map (replB r)) r b := by
  induction hl with
  | @use b t hs hu =>
    intro hb
    have ht := succ_lt h hb hs
    refine ⟨used_of ht _ (fun _ hj => hj) hu, .use (t := t) (by rw [repl_getD r B hb]; exact hs) ?_⟩
    rw [repl_getD r B ht]
    exact (goes_repl _ r _).1 hu
  | @thru b t hs he _ ih =>
    intro hb
    have ht := succ_lt h hb hs
    refine ⟨(ih ht).1, .thru (t := t) (by rw [repl_getD r B hb]; exact hs) ?_ (ih ht).2⟩
    rw [repl_getD r B ht]
    exact (goes_repl _ r _).2 he
theorem LI_repl {R : Nat} {B : List S43} (h : OkF R B) {r b : Nat} (hb : b < B.length) (l : List S62) (hm : ∀ j ∈ l, j ∈ (B.getD b z43).f0) (hl : LI B r b l) : usedB (r : Int) B = true ∧ LI (B.map (replB r)) r b (l.map (repl r)) := by
  unfold LI
  rw [repl_getD r B hb]
  rcases hl with hu | ⟨he, hl⟩
  · exact ⟨used_of hb l hm hu, .inl ((goes_repl _ r l).1 hu)⟩
  · have := LO_repl h hl hb
    exact ⟨this.1, .inr ⟨(goes_repl _ r l).2 he, this.2⟩⟩
section
variable {B : List S43} {N : Nat} {I O I' O' : Nat → Nat}
theorem bef_live (hB : OkF N B) (hN : N ≤ 30) (h : SI N B I O []) {b i : Nat} (hb : b < B.length) (hi : i ≤ (B.getD b z43).f0.length) (r : Nat) :
    (befoR N B (lstN O B.length) b i).contains (r : Int) = true ↔ LI B r b ((B.getD b z43).f0.drop i) := by
  rw [bef_pt hB hN h hb hi, List.contains_iff_mem, mem_listN (N := N) (by omega) (foldr_lt _ (fun j hj => (hB.b _ (memB hb)).code j (List.mem_of_mem_drop hj)) (endN_lt (hB.b _ (memB hb)) (h.lt b hb).2))]
  exact point_iff hB hb (fun r => h.out_iff hB hb r) (fun j hj => List.mem_of_mem_drop hj) r
theorem bounds_law (hB : OkF N B) (hN : N ≤ 30) (r : Nat) (h : SI N B I O []) (h' : SI N (B.map (replB r)) I' O' []) {b i : Nat} (hb : b < B.length) (hi : i ≤ (B.getD b z43).f0.length)
    (hl : (befoR N B (lstN O B.length) b i).contains (r : Int) = true) : usedB (r : Int) B = true ∧ (befoR N (B.map (replB r)) (lstN O' (B.map (replB r)).length) b i).contains (r : Int) = true := by
  have h1 := LI_repl hB hb _ (fun j hj => List.mem_of_mem_drop hj) ((bef_live hB hN h hb hi r).1 hl)
  refine ⟨h1.1, (bef_live (repl_okF hB) hN h' (by rw [List.length_map]; exact hb) ?_ r).2 ?_⟩
  · rw [repl_getD r B hb]; show i ≤ (List.map _ _).length; rw [List.length_map]; exact hi
  · rw [repl_getD r B hb]
    have e : (replB (r : Int) (B.getD b z43)).f0.drop i = ((B.getD b z43).f0.drop i).map (repl r) := by
      show (List.map _ _).drop i = _
      rw [List.map_drop]
    rw [e]
    exact h1.2
end
theorem index_l0 (xs : List Int) (x : Int) (hn : xs.length ≤ 1000) : ∀ (d i k : Nat), i + d = xs.length → d < k → ∃ q, slices_Index_int_int.l0 k xs x (xs.length : Int) (i : Int) = some q ∧ (decide (q ≥ 0) = (xs.drop i).contains x)
  | 0, i, k, hi, hk => by
    obtain ⟨k, rfl⟩ := k_add hk
    refine ⟨-1, by rw [slices_Index_int_int.l0, if_neg (by omega)], ?_⟩
    rw [List.drop_eq_nil_of_le (by omega)]; rfl
  | d + 1, i, k, hi, hk => by
    obtain ⟨k, rfl⟩ := k_add (show 1 ≤ k by omega)
    have hlt : i < xs.length := by omega
    have hrd : rd xs (i : Int) = xs[i] := by unfold rd; rw [Int.toNat_natCast, List.getD_eq_getElem?_getD, List.getElem?_eq_getElem hlt]; rfl
    rw [slices_Index_int_int.l0, if_pos (by omega), if_pos (by omega), if_pos (by omega), hrd, List.drop_eq_getElem_cons hlt, List.contains_cons]
    by_cases e : x = xs[i]
    · refine ⟨(i : Int), by rw [if_pos e], ?_⟩
      rw [show (x == xs[i]) = true from by simpa using e, decide_eq_true (by omega)]; rfl
    · rw [if_neg e, show (x == xs[i]) = false from by simpa using e, wr64 (by omega), Bool.false_or]
      exact index_l0 xs x hn d (i + 1) k (by omega) (by omega)
theorem contains_f (xs : List Int) (x : Int) (hn : xs.length ≤ 1000) : slices_Contains_int_int.f 1001 xs x = some (xs.contains x) := by
  obtain ⟨q, h1, h2⟩ := index_l0 xs x hn xs.length 0 1001 (by omega) (by omega)
  unfold slices_Contains_int_int.f slices_Index_int_int.f
  rw [show ((0 : Nat) : Int) = 0 from rfl] at h1
  rw [h1, Option.bind_some, h2, List.drop_zero]
end Go.Proofs.Ythgodpmahdnnjaa
end
section
namespace Go.Proofs.Ythgodpmahdnnjaa
open Go.RowKit Go.Proofs.YthgodpmahdnnjaaW.PrintWords Go.Proofs.YthgodpmahdnnjaaW.PrintMore Go.Proofs.Ythgodpmahdnnjaa.H
def bcell (V : Nat → Value) (B : List S43) (q : Nat) : Value :=
  if q % 5 = 0 then V (q / 5) else if q % 5 = 1 then .int .u8 (B.getD (q / 5) z43).f1 else if q % 5 = 2 then .int .i64 (B.getD (q / 5) z43).f2
  else if q % 5 = 3 then .int .i64 (B.getD (q / 5) z43).f3 else .int .i64 (B.getD (q / 5) z43).f4
def bcells (V : Nat → Value) (B : List S43) : List Value := (List.range (B.length * 5)).map (bcell V B)
theorem bcells_length (V : Nat → Value) (B : List S43) : (bcells V B).length = B.length * 5 := by simp [bcells]
theorem bcells_get {V : Nat → Value} {B : List S43} {q : Nat} (h : q < B.length * 5) : (bcells V B)[q]? = some (bcell V B q) := by simp [bcells, h]
theorem bcells_set (V : Nat → Value) (B : List S43) (j : Nat) (u : Value) : (bcells V B).set (j * 5) u = bcells (fun i => if i = j then u else V i) B := by
  apply List.ext_getElem?
  intro q
  by_cases h : q < B.length * 5
  · rw [List.getElem?_set, bcells_get h, bcells_get h, bcells_length]
    by_cases e : j * 5 = q
    · subst e
      rw [if_pos rfl, if_pos h]
      unfold bcell
      rw [if_pos (by omega)]
      dsimp only
      rw [if_pos (by omega)]
    · rw [if_neg e]
      unfold bcell
      by_cases h0 : q % 5 = 0
      · rw [if_pos h0, if_pos h0]
        dsimp only
        rw [if_neg (by omega)]
      · rw [if_neg h0, if_neg h0]
  · rw [List.getElem?_eq_none (by rw [List.length_set, bcells_length]; omega), List.getElem?_eq_none (by rw [bcells_length]; omega)]
theorem bcell0 (V : Nat → Value) (B : List S43) (j : Nat) : bcell V B (j * 5) = V j := by
  unfold bcell
  rw [if_pos (by omega), show j * 5 / 5 = j by omega]
theorem bcell_eq (V : Nat → Value) (B : List S43) (j i : Nat) (hi : i < 5) : bcell V B (j * 5 + i) = ([V j, .int .u8 (B.getD j z43).f1, .int .i64 (B.getD j z43).f2, .int .i64 (B.getD j z43).f3, .int .i64 (B.getD j z43).f4] : List Value).getD i undef := by
  have hd : (j * 5 + i) / 5 = j := by omega
  have hm : (j * 5 + i) % 5 = i := by omega
  unfold bcell
  rw [hd, hm]
  have : i = 0 ∨ i = 1 ∨ i = 2 ∨ i = 3 ∨ i = 4 := by omega
  rcases this with rfl | rfl | rfl | rfl | rfl <;> rfl
def raw5 : List Value → List Value → Prop := fun x cs => cs = x ∧ cs.length = 5 ∧ ∀ u ∈ cs, u.oneCell' = true
theorem rows_of {w : World} {A : Option Addr} {B : List S43} (h : k43.C w A B.length B) :
    ∃ U : Nat → Value, (∀ j, j < B.length → ∃ A0 c0, U j = .slice A0 (B.getD j z43).f0.length c0 ∧ (B.getD j z43).f0.length ≤ c0 ∧ k62.C w A0 (B.getD j z43).f0.length (B.getD j z43).f0) ∧
      ReadsRow raw5 5 w A B.length ((List.range B.length).map fun j => [U j, .int .u8 (B.getD j z43).f1, .int .i64 (B.getD j z43).f2, .int .i64 (B.getD j z43).f3, .int .i64 (B.getD j z43).f4]) := by
  have hall : ∀ j, j < B.length → ∃ u : Value, (∃ A0 c0, u = .slice A0 (B.getD j z43).f0.length c0 ∧ (B.getD j z43).f0.length ≤ c0 ∧ k62.C w A0 (B.getD j z43).f0.length (B.getD j z43).f0) ∧
      ∃ ad, A = some ad ∧ ∀ i u', ([u, .int .u8 (B.getD j z43).f1, .int .i64 (B.getD j z43).f2, .int .i64 (B.getD j z43).f3, .int .i64 (B.getD j z43).f4] : List Value)[i]? = some u' → w.cell? (ad.add (j * 5 + i)) = some u' := by
    intro j hj
    obtain ⟨ad, hA, hc⟩ := h.2.2 (by omega)
    obtain ⟨c, hcl, hK, hcc⟩ := hc j (B.getD j z43) (by rw [List.getD_eq_getElem?_getD, List.getElem?_eq_getElem hj]; rfl)
    obtain ⟨A0, c0, rfl, l0, g0⟩ := k43_open hK
    exact ⟨_, ⟨A0, c0, rfl, l0, g0⟩, ad, hA, hcc⟩
  obtain ⟨U, hU⟩ := Classical.axiomOfChoice (fun j => (if h : j < B.length then ⟨(hall j h).choose, fun _ => (hall j h).choose_spec⟩ else ⟨undef, fun h' => absurd h' h⟩ : ∃ u : Value, j < B.length → (∃ A0 c0, u = .slice A0 (B.getD j z43).f0.length c0 ∧ (B.getD j z43).f0.length ≤ c0 ∧ k62.C w A0 (B.getD j z43).f0.length (B.getD j z43).f0) ∧
      ∃ ad, A = some ad ∧ ∀ i u', ([u, .int .u8 (B.getD j z43).f1, .int .i64 (B.getD j z43).f2, .int .i64 (B.getD j z43).f3, .int .i64 (B.getD j z43).f4] : List Value)[i]? = some u' → w.cell? (ad.add (j * 5 + i)) = some u'))
  refine ⟨U, fun j hj => (hU j hj).1, by simp, h.2.1, fun hp => ?_⟩
  obtain ⟨ad, hA, _⟩ := h.2.2 hp
  refine ⟨ad, hA, fun j p hp => ?_⟩
  have hj : j < B.length := by
    have := (List.getElem?_eq_some_iff.1 hp).1
    simpa using this
  have hpe : p = [U j, .int .u8 (B.getD j z43).f1, .int .i64 (B.getD j z43).f2, .int .i64 (B.getD j z43).f3, .int .i64 (B.getD j z43).f4] := by simp [hj] at hp; rw [← hp]; simp [List.getD_eq_getElem?_getD, hj]
  subst hpe
  obtain ⟨⟨A0, c0, hu, _⟩, ad', hA', hcc⟩ := hU j hj
  rw [hA] at hA'
  injection hA' with hA'
  subst hA'
  refine ⟨_, rfl, ⟨rfl, rfl, fun u hu' => ?_⟩, hcc⟩
  simp only [List.mem_cons, List.not_mem_nil, or_false] at hu'
  rcases hu' with rfl | rfl | rfl | rfl | rfl
  · rw [hu]; rfl
  all_goals rfl
theorem raw_own {W : World} {base : Nat} {ok : Nat → Prop} {v : Value} {U : Nat → Value} {B : List S43} (h : (Kd.raw 5).R 43 W base ok v ((List.range B.length).map fun j => [U j, .int .u8 (B.getD j z43).f1, .int .i64 (B.getD j z43).f2, .int .i64 (B.getD j z43).f3, .int .i64 (B.getD j z43).f4])) :
    W.ownsRow base 43 5 v B.length (bcells U B) := by
  obtain ⟨_, inner, ho, hr⟩ := h
  rw [List.length_map, List.length_range] at ho
  have hlen : inner.length = B.length * 5 := ho.1
  have he : inner = bcells U B := by
    apply List.ext_getElem?
    intro q
    by_cases hq : q < B.length * 5
    · have hj : q / 5 < B.length := by omega
      have h1 := (hr.2 (q / 5) _ (by rw [List.getElem?_map, List.getElem?_range hj]; rfl)).1
      have h2 : ((inner.drop (q / 5 * 5)).take 5)[q % 5]? = inner[q]? := by
        rw [List.getElem?_take, if_pos (by omega), List.getElem?_drop, show q / 5 * 5 + q % 5 = q by omega]
      rw [← h2]
      have h3 : ((inner.drop (q / 5 * (Kd.raw 5).sz)).take (Kd.raw 5).sz)[q % 5]? = ((inner.drop (q / 5 * 5)).take 5)[q % 5]? := rfl
      rw [← h3, h1, bcells_get hq]
      have h4 := bcell_eq U B (q / 5) (q % 5) (by omega)
      rw [show q / 5 * 5 + q % 5 = q by omega] at h4
      rw [h4, List.getD_eq_getElem?_getD, List.getElem?_eq_getElem (by simp; omega)]
      rfl
    · rw [List.getElem?_eq_none (by omega), List.getElem?_eq_none (by rw [bcells_length]; omega)]
  rw [← he]
  exact ho
structure BlkTo (k : Nat) (W : World) (base : Nat) (v : Value) (V U : Nat → Value) (B : List S43) : Prop where
  own : W.ownsRow base 43 5 v B.length (bcells V B)
  row : ∀ j, j < k → k62.R 62 W base (fun b => some b = (V j).ownBlock) (V j) (B.getD j z43).f0
  sep : ∀ i j, i < k → j < k → i ≠ j → ∀ b, (V i).ownBlock = some b → (V j).ownBlock ≠ some b
  old : ∀ j, k ≤ j → V j = U j
variable {W W1 : World} {base k : Nat} {v : Value} {V U : Nat → Value} {B : List S43}
theorem BlkTo.row_block (h : BlkTo k W base v V U B) {j b : Nat} (hj : j < k) (hb : (V j).ownBlock = some b) : base ≤ b ∧ b < W.heap.size ∧ some b ≠ v.ownBlock := by
  have hr := h.row j hj
  refine ⟨Kd.R_base hr b hb, Kd.R_lt hr b hb, fun e => ?_⟩
  obtain ⟨cells, hc⟩ := Kd.R_typed hr b hb
  rcases h.own.2 with ⟨h1, _⟩ | ⟨g, cap, cur, h1, _, hg, _⟩
  · rw [h1] at e; cases e
  · rw [h1] at e
    have : b = g := by simpa [Value.ownBlock] using e
    subst this
    rw [hc] at hg
    injection hg with hg
    injection hg with _ hg
    exact absurd hg (by decide)
theorem BlkTo.kept (h : BlkTo k W base v V U B) {S : Nat → Prop} (hk : Kept W W1 S) (hS : ∀ b, S b → b < base ∨ W.heap.size ≤ b) : BlkTo k W1 base v V U B := by
  refine ⟨own_move h.own fun b hb => ?_, fun j hj => Kd.R_step (h.row j hj) fun b hb hlt => ?_, h.sep, h.old⟩
  · have := h.own.lt b hb
    exact hk.2 b this.2 fun hs => by have := hS b hs; omega
  · have := h.row_block hj hb.symm
    exact hk.2 b hlt fun hs => by have := hS b hs; omega
theorem BlkTo.below (h : BlkTo k W base v V U B) (hb : Below W.heap.size W W1) : BlkTo k W1 base v V U B := h.kept (S := fun _ => False) (Kept.of_below hb _) (fun _ h => h.elim)
theorem BlkTo.set (h : BlkTo k W base v V U B) {g t : Nat} {cells : Array Value} (hb : W.heap[g]? = some (.cells cells t (0, 0))) (h1 : 43 ≠ t) (h2 : 62 ≠ t) (j : Nat) (u : Value) : BlkTo k (W.setCell ⟨g, j, none⟩ u) base v V U B := by
  refine ⟨own_move h.own fun b hbv => Below.heap_setCell W ⟨g, j, none⟩ u b fun e => ?_, fun i hi => Kd.R_set (h.row i hi) hb (fun q hq => ?_) j u, h.sep, h.old⟩
  · rw [show b = g from e] at hbv
    rcases h.own.2 with ⟨h3, _⟩ | ⟨g', cap, cur, h3, _, hg, _⟩
    · rw [h3] at hbv; cases hbv
    · rw [h3] at hbv
      have e2 : g' = g := by simpa [Value.ownBlock] using hbv
      rw [e2, hb] at hg
      injection hg with hg
      injection hg with _ hg
      exact h1 hg.symm
  · rcases List.mem_cons.1 hq with rfl | hq
    · exact h2
    · cases hq
theorem BlkTo.next {g cap h : Nat} {u : Value} (hB : BlkTo k W base (.slice (some ⟨g, 0, none⟩) B.length cap) V U B) (hkn : k < B.length) (hWb : Below W.heap.size W W1) (hgb : base ≤ g) (hbh : base ≤ h) (hh : W.heap.size ≤ h)
    (hR : k62.R 62 W1 h (fun _ => True) u (B.getD k z43).f0) :
    BlkTo (k + 1) (W1.setCell ⟨g, k * 5, none⟩ u) base (.slice (some ⟨g, 0, none⟩) B.length cap) (fun i => if i = k then u else V i) U B := by
  have h1 := hB.below hWb
  have hg : ∃ cells, W1.heap[g]? = some (.cells cells 43 (0, 0)) := by
    rcases h1.own.2 with ⟨h2, _⟩ | ⟨g', cap', cur, h2, _, hg', _⟩
    · cases h2
    · injection h2 with h2 _ _
      injection h2 with h2
      injection h2 with h2
      subst h2
      exact ⟨cur, hg'⟩
  obtain ⟨cells, hg⟩ := hg
  have hty : ∀ q, q ∈ 62 :: k62.E → q ≠ 43 := by decide
  have hsep : ∀ i, i < k → ∀ b, (V i).ownBlock = some b → u.ownBlock ≠ some b := by
    intro i hi b hb hu
    have h2 := hB.row_block hi hb
    have h3 := Kd.R_base hR b hu
    omega
  refine ⟨?_, fun j hj => ?_, fun i j hi hj hne b hb => ?_, fun j hj => ?_⟩
  · rw [← bcells_set]
    exact (h1.own.stored (k * 5) u).1
  · by_cases e : j = k
    · subst e
      rw [if_pos rfl]
      exact Kd.R_tight rfl (Kd.R_set (Kd.R_lower hR hbh) hg hty _ _)
    · rw [if_neg e]
      exact Kd.R_set (h1.row j (by omega)) hg hty _ _
  · revert hb
    show (if i = k then u else V i).ownBlock = some b → (if j = k then u else V j).ownBlock ≠ some b
    intro hb
    by_cases ei : i = k
    · rw [if_pos ei] at hb
      rw [if_neg (by omega)]
      exact fun h2 => hsep j (by omega) b h2 hb
    · rw [if_neg ei] at hb
      by_cases ej : j = k
      · rw [if_pos ej]
        exact hsep i (by omega) b hb
      · rw [if_neg ej]
        exact hB.sep i j (by omega) (by omega) hne b hb
  · rw [if_neg (by omega)]
    exact hB.old j (by omega)
structure Blk (W : World) (base : Nat) (v : Value) (V : Nat → Value) (B : List S43) : Prop where
  own : W.ownsRow base 43 5 v B.length (bcells V B)
  row : ∀ j, j < B.length → k62.R 62 W base (fun b => some b = (V j).ownBlock) (V j) (B.getD j z43).f0
  sep : ∀ i j, i < B.length → j < B.length → i ≠ j → ∀ b, (V i).ownBlock = some b → (V j).ownBlock ≠ some b
theorem Blk.to (h : Blk W base v V B) : BlkTo B.length W base v V V B := ⟨h.own, h.row, h.sep, fun _ _ => rfl⟩
theorem BlkTo.all (h : BlkTo B.length W base v V U B) : Blk W base v V B := ⟨h.own, h.row, h.sep⟩
theorem Blk.kept (h : Blk W base v V B) {S : Nat → Prop} (hk : Kept W W1 S) (hS : ∀ b, S b → b < base ∨ W.heap.size ≤ b) : Blk W1 base v V B := (h.to.kept hk hS).all
theorem Blk.below (h : Blk W base v V B) (hb : Below W.heap.size W W1) : Blk W1 base v V B := (h.to.below hb).all
theorem Blk.C (h : Blk W base v V B) : ∃ A c, v = .slice A B.length c ∧ B.length ≤ c ∧ k43.C W A B.length B := by
  rcases h.own.2 with ⟨rfl, h0⟩ | ⟨g, cap, cur, rfl, hb, hg, hn, hm, hc, ht⟩
  · exact ⟨none, 0, by rw [h0], by omega, rfl, by omega, fun hp => by omega⟩
  · refine ⟨some ⟨g, 0, none⟩, cap, rfl, hn, rfl, by simp [maxLen] at hm; omega, fun hp => ⟨_, rfl, fun j p hj => ?_⟩⟩
    have hjn : j < B.length := (List.getElem?_eq_some_iff.1 hj).1
    have hpe : p = B.getD j z43 := by rw [List.getD_eq_getElem?_getD, hj]; rfl
    subst hpe
    obtain ⟨A0, c0, hv, hl, hC⟩ := Kd.R_reads (h.row j hjn)
    refine ⟨[.slice A0 (B.getD j z43).f0.length c0, .int .u8 (B.getD j z43).f1, .int .i64 (B.getD j z43).f2, .int .i64 (B.getD j z43).f3, .int .i64 (B.getD j z43).f4], rfl, k43_mk W _ hl hC, fun i u hu => ?_⟩
    have hi : i < 5 := (List.getElem?_eq_some_iff.1 hu).1
    rw [add_plain]
    refine (h.own.cellAt (j * 5 + i) (by omega)).trans ?_
    rw [bcells_get (by omega), bcell_eq V B j i hi, hv, List.getD_eq_getElem?_getD, hu]
    rfl
end Go.Proofs.Ythgodpmahdnnjaa
end
section
namespace Go.Proofs.Ythgodpmahdnnjaa
open Go.RowKit Go.Proofs.YthgodpmahdnnjaaW.PrintWords Go.Proofs.YthgodpmahdnnjaaW.PrintMore Go.Proofs.Ythgodpmahdnnjaa.H
def icell (C : List S62) (q : Nat) : Value :=
  if q % 6 = 0 then .int .u8 (C.getD (q / 6) z62).f0 else if q % 6 = 1 then .int .i64 (C.getD (q / 6) z62).f1 else if q % 6 = 2 then .int .i64 (C.getD (q / 6) z62).f2
  else if q % 6 = 3 then .int .i64 (C.getD (q / 6) z62).f3 else if q % 6 = 4 then .int .i64 (C.getD (q / 6) z62).f4 else .string (C.getD (q / 6) z62).f5
def icells (C : List S62) : List Value := (List.range (C.length * 6)).map (icell C)
theorem icells_length (C : List S62) : (icells C).length = C.length * 6 := by simp [icells]
theorem icells_get {C : List S62} {q : Nat} (h : q < C.length * 6) : (icells C)[q]? = some (icell C q) := by simp [icells, h]
theorem icell_eq (C : List S62) (j i : Nat) (hi : i < 6) : icell C (j * 6 + i) = ([.int .u8 (C.getD j z62).f0, .int .i64 (C.getD j z62).f1, .int .i64 (C.getD j z62).f2, .int .i64 (C.getD j z62).f3, .int .i64 (C.getD j z62).f4, .string (C.getD j z62).f5] : List Value).getD i undef := by
  have hd : (j * 6 + i) / 6 = j := by omega
  have hm : (j * 6 + i) % 6 = i := by omega
  unfold icell
  rw [hd, hm]
  have : i = 0 ∨ i = 1 ∨ i = 2 ∨ i = 3 ∨ i = 4 ∨ i = 5 := by omega
  rcases this with rfl | rfl | rfl | rfl | rfl | rfl <;> rfl
theorem icells_set (C : List S62) (i : Nat) (hi : i < C.length) (y : S62) :
    ((((((icells C).set (i * 6) (.int .u8 y.f0)).set (i * 6 + 1) (.int .i64 y.f1)).set (i * 6 + 2) (.int .i64 y.f2)).set (i * 6 + 3) (.int .i64 y.f3)).set (i * 6 + 4) (.int .i64 y.f4)).set (i * 6 + 5) (.string y.f5) = icells (C.set i y) := by
  apply List.ext_getElem?
  intro q
  by_cases h : q < C.length * 6
  · rw [icells_get (by rw [List.length_set]; exact h)]
    simp only [List.getElem?_set, List.length_set, icells_length]
    by_cases e : q / 6 = i
    · have hg : (C.set i y).getD i z62 = y := by simp [List.getD_eq_getElem?_getD, List.getElem?_set, hi]
      have hq : q = i * 6 + q % 6 := by omega
      have hc : q % 6 = 0 ∨ q % 6 = 1 ∨ q % 6 = 2 ∨ q % 6 = 3 ∨ q % 6 = 4 ∨ q % 6 = 5 := by omega
      unfold icell
      rw [e, hg]
      rcases hc with hc | hc | hc | hc | hc | hc
      · rw [if_neg (by omega), if_neg (by omega), if_neg (by omega), if_neg (by omega), if_neg (by omega), if_pos (by omega), if_pos (by omega), if_pos hc]
      · rw [if_neg (by omega), if_neg (by omega), if_neg (by omega), if_neg (by omega), if_pos (by omega), if_pos (by omega), if_neg (by omega), if_pos hc]
      · rw [if_neg (by omega), if_neg (by omega), if_neg (by omega), if_pos (by omega), if_pos (by omega), if_neg (by omega), if_neg (by omega), if_pos hc]
      · rw [if_neg (by omega), if_neg (by omega), if_pos (by omega), if_pos (by omega), if_neg (by omega), if_neg (by omega), if_neg (by omega), if_pos hc]
      · rw [if_neg (by omega), if_pos (by omega), if_pos (by omega), if_neg (by omega), if_neg (by omega), if_neg (by omega), if_neg (by omega), if_pos hc]
      · rw [if_pos (by omega), if_pos (by omega), if_neg (by omega), if_neg (by omega), if_neg (by omega), if_neg (by omega), if_neg (by omega)]
    · rw [if_neg (by omega), if_neg (by omega), if_neg (by omega), if_neg (by omega), if_neg (by omega), if_neg (by omega), icells_get h]
      have hg : (C.set i y).getD (q / 6) z62 = C.getD (q / 6) z62 := by simp [List.getD_eq_getElem?_getD, List.getElem?_set_ne (Ne.symm e)]
      unfold icell
      rw [hg]
  · rw [List.getElem?_eq_none (by simp [icells_length]; omega), List.getElem?_eq_none (by rw [icells_length, List.length_set]; omega)]
theorem icells_row {C : List S62} {j : Nat} (hj : j < C.length) : ((icells C).drop (j * 6)).take 6 = [.int .u8 (C.getD j z62).f0, .int .i64 (C.getD j z62).f1, .int .i64 (C.getD j z62).f2, .int .i64 (C.getD j z62).f3, .int .i64 (C.getD j z62).f4, .string (C.getD j z62).f5] := by
  apply List.ext_getElem?
  intro q
  by_cases hq : q < 6
  · rw [List.getElem?_take, if_pos hq, List.getElem?_drop, icells_get (by omega), icell_eq C j q hq]
    rw [List.getD_eq_getElem?_getD, List.getElem?_eq_getElem (by simpa using hq)]
    rfl
  · rw [List.getElem?_eq_none (by simp [icells_length]; omega), List.getElem?_eq_none (by simp; omega)]
theorem irow_of {W : World} {base : Nat} {ok : Nat → Prop} {v : Value} {C : List S62} (h : k62.R 62 W base ok v C) : W.ownsRow base 62 6 v C.length (icells C) := by
  obtain ⟨_, inner, ho, hr⟩ := h
  have hlen : inner.length = C.length * 6 := ho.1
  have he : inner = icells C := by
    apply List.ext_getElem?
    intro q
    by_cases hq : q < C.length * 6
    · have hj : q / 6 < C.length := by omega
      have h1 := k62_openM (hr.2 (q / 6) (C.getD (q / 6) z62) (by rw [List.getD_eq_getElem?_getD, List.getElem?_eq_getElem hj]; rfl))
      have h2 : ((inner.drop (q / 6 * 6)).take 6)[q % 6]? = inner[q]? := by
        rw [List.getElem?_take, if_pos (by omega), List.getElem?_drop, show q / 6 * 6 + q % 6 = q by omega]
      have h3 : ((inner.drop (q / 6 * (Kd.sz k62))).take (Kd.sz k62))[q % 6]? = ((inner.drop (q / 6 * 6)).take 6)[q % 6]? := rfl
      rw [← h2, ← h3, h1, ← icells_row hj, List.getElem?_take, if_pos (by omega), List.getElem?_drop, show q / 6 * 6 + q % 6 = q by omega]
    · rw [List.getElem?_eq_none (by omega), List.getElem?_eq_none (by rw [icells_length]; omega)]
  rw [← he]
  exact ho
theorem irow_R {W : World} {base : Nat} {v : Value} {C : List S62} (h : W.ownsRow base 62 6 v C.length (icells C)) : k62.R 62 W base (fun _ => True) v C := by
  refine ⟨fun _ _ => trivial, icells C, h, icells_length C, fun j p hj => ?_⟩
  have hjl := (List.getElem?_eq_some_iff.1 hj).1
  have hp : p = C.getD j z62 := by rw [List.getD_eq_getElem?_getD, hj]; rfl
  subst hp
  have := k62_mkM W base (fun k => True ∧ some k ≠ v.ownBlock) (C.getD j z62)
  rw [← icells_row hjl] at this
  exact this
def withC (B : List S43) (C : Nat → List S62) : List S43 := (List.range B.length).map fun j => ⟨C j, (B.getD j z43).f1, (B.getD j z43).f2, (B.getD j z43).f3, (B.getD j z43).f4⟩
theorem withC_length (B : List S43) (C : Nat → List S62) : (withC B C).length = B.length := by simp [withC]
theorem withC_getD {B : List S43} {C : Nat → List S62} {j : Nat} (h : j < B.length) : (withC B C).getD j z43 = ⟨C j, (B.getD j z43).f1, (B.getD j z43).f2, (B.getD j z43).f3, (B.getD j z43).f4⟩ := by
  simp [withC, List.getD_eq_getElem?_getD, h]
structure BlkC (W : World) (base : Nat) (v : Value) (V : Nat → Value) (B : List S43) (C : Nat → List S62) : Prop where
  own : W.ownsRow base 43 5 v B.length (bcells V B)
  row : ∀ j, j < B.length → W.ownsRow base 62 6 (V j) (C j).length (icells (C j))
  sep : ∀ i j, i < B.length → j < B.length → i ≠ j → ∀ b, (V i).ownBlock = some b → (V j).ownBlock ≠ some b
variable {W W1 : World} {base : Nat} {v : Value} {V : Nat → Value} {B : List S43} {C : Nat → List S62}
theorem Blk.toC (h : Blk W base v V B) : BlkC W base v V B (fun j => (B.getD j z43).f0) := ⟨h.own, fun j hj => irow_of (h.row j hj), h.sep⟩
theorem BlkC.congr {C' : Nat → List S62} (h : BlkC W base v V B C) (hc : ∀ j, j < B.length → C' j = C j) : BlkC W base v V B C' := ⟨h.own, fun j hj => by rw [hc j hj]; exact h.row j hj, h.sep⟩
theorem BlkC.move (h : BlkC W base v V B C) (hm : ∀ (k : Nat) (cs : Array Value) (t : TypeId), W.heap[k]? = some (.cells cs t (0, 0)) → t = 43 ∨ t = 62 → W1.heap[k]? = W.heap[k]?) : BlkC W1 base v V B C := by
  refine ⟨own_move h.own fun k hk => ?_, fun j hj => own_move (h.row j hj) fun k hk => ?_, h.sep⟩
  · obtain ⟨cs, hcs⟩ := row_cells h.own k hk
    exact hm k cs _ hcs (.inl rfl)
  · obtain ⟨cs, hcs⟩ := row_cells (h.row j hj) k hk
    exact hm k cs _ hcs (.inr rfl)
theorem BlkC.below (h : BlkC W base v V B C) (hb : Below W.heap.size W W1) : BlkC W1 base v V B C := h.move fun k _ _ hc _ => hb.block k (heap_lt hc)
theorem BlkC.set (h : BlkC W base v V B C) {g t : Nat} {cells : Array Value} (hb : W.heap[g]? = some (.cells cells t (0, 0))) (h1 : 43 ≠ t) (h2 : 62 ≠ t) (j : Nat) (u : Value) : BlkC (W.setCell ⟨g, j, none⟩ u) base v V B C :=
  h.move fun k cs t' hc ht => Below.heap_setCell W ⟨g, j, none⟩ u k fun e => by
    rw [show k = g from e, hb] at hc
    injection hc with hc
    injection hc with _ hc
    rcases ht with ht | ht
    · exact h1 (ht ▸ hc.symm)
    · exact h2 (ht ▸ hc.symm)
theorem BlkC.code (h : BlkC W base v V B C) {j : Nat} (hj : j < B.length) : ∃ A0 c0, V j = .slice A0 (C j).length c0 ∧ (C j).length ≤ c0 ∧ k62.C W A0 (C j).length (C j) := Kd.R_reads (irow_R (h.row j hj))
theorem BlkC.reads (h : BlkC W base v V B C) : ∃ A c, v = .slice A B.length c ∧ B.length ≤ c ∧ k43.C W A B.length (withC B C) := by
  rcases h.own.2 with ⟨rfl, h0⟩ | ⟨g, cap, cur, rfl, hb, hg, hn, hm, hc, ht⟩
  · exact ⟨none, 0, by rw [h0], by omega, by rw [withC_length], by omega, fun hp => by omega⟩
  · refine ⟨some ⟨g, 0, none⟩, cap, rfl, hn, withC_length _ _, by simp [maxLen] at hm; omega, fun hp => ⟨_, rfl, fun j p hj => ?_⟩⟩
    have hjn : j < B.length := by have := (List.getElem?_eq_some_iff.1 hj).1; rw [withC_length] at this; exact this
    have hpe : p = (withC B C).getD j z43 := by rw [List.getD_eq_getElem?_getD, hj]; rfl
    rw [withC_getD hjn] at hpe
    subst hpe
    obtain ⟨A0, c0, hv, hl, hC⟩ := h.code hjn
    refine ⟨_, rfl, k43_mk W ⟨C j, (B.getD j z43).f1, (B.getD j z43).f2, (B.getD j z43).f3, (B.getD j z43).f4⟩ hl hC, fun i u hu => ?_⟩
    have hi : i < 5 := (List.getElem?_eq_some_iff.1 hu).1
    rw [add_plain]
    refine (h.own.cellAt (j * 5 + i) (by omega)).trans ?_
    rw [bcells_get (by omega), bcell_eq V B j i hi, hv, List.getD_eq_getElem?_getD, hu]
    rfl
theorem BlkC.cells {A : Option Addr} {c : Nat} (h : BlkC W base (.slice A B.length c) V B C) {j : Nat} (hj : j < B.length) :
    ∃ g, A = some ⟨g, 0, none⟩ ∧ base ≤ g ∧ W.cell? ⟨g, j * 5, none⟩ = some (V j) ∧ W.cell? ⟨g, j * 5 + 1, none⟩ = some (.int .u8 (B.getD j z43).f1) ∧ W.cell? ⟨g, j * 5 + 2, none⟩ = some (.int .i64 (B.getD j z43).f2) := by
  obtain ⟨g, cap, hv, hb, _⟩ := h.own.form (by omega)
  have hA : A = some ⟨g, 0, none⟩ := by injection hv
  have key : ∀ i, i < 5 → W.cell? ⟨g, j * 5 + i, none⟩ = some (bcell V B (j * 5 + i)) := fun i hi => by
    have h1 := h.own.cells (g := g) (by rw [hA]; rfl) (j * 5 + i) _ (bcells_get (by omega))
    rw [add_plain] at h1
    exact h1
  refine ⟨g, hA, hb, ?_, ?_, ?_⟩
  · rw [← bcell0 V B j]; exact key 0 (by omega)
  · rw [key 1 (by omega), bcell_eq V B j 1 (by omega)]; rfl
  · rw [key 2 (by omega), bcell_eq V B j 2 (by omega)]; rfl
theorem BlkC.ins (h : BlkC W base v V B C) {j i : Nat} (hj : j < B.length) (hi : i < (C j).length) :
    ∃ g c, V j = .slice (some ⟨g, 0, none⟩) (C j).length c ∧ base ≤ g ∧ (W.cell? ⟨g, i * 6, none⟩ = some (.int .u8 ((C j).getD i z62).f0) ∧ W.cell? ⟨g, i * 6 + 1, none⟩ = some (.int .i64 ((C j).getD i z62).f1) ∧ W.cell? ⟨g, i * 6 + 2, none⟩ = some (.int .i64 ((C j).getD i z62).f2) ∧ W.cell? ⟨g, i * 6 + 3, none⟩ = some (.int .i64 ((C j).getD i z62).f3) ∧
      W.cell? ⟨g, i * 6 + 4, none⟩ = some (.int .i64 ((C j).getD i z62).f4) ∧ W.cell? ⟨g, i * 6 + 5, none⟩ = some (.string ((C j).getD i z62).f5)) ∧ ∀ q, W.frozen? ⟨g, q, none⟩ = false := by
  have hr := h.row j hj
  obtain ⟨g, cap, hv, hb, _⟩ := hr.form (by omega)
  have key : ∀ q, q < 6 → W.cell? ⟨g, i * 6 + q, none⟩ = some (icell (C j) (i * 6 + q)) := fun q hq => by
    have h1 := hr.cells (g := g) (by rw [hv]; rfl) (i * 6 + q) _ (icells_get (by omega))
    rw [add_plain] at h1
    exact h1
  have key2 := fun q hq => (key q hq).trans (congrArg some (icell_eq (C j) i q hq))
  refine ⟨g, cap, hv, hb, ⟨key2 0 (by omega), key2 1 (by omega), key2 2 (by omega), key2 3 (by omega), key2 4 (by omega), key2 5 (by omega)⟩, fun q => ?_⟩
  rw [hv] at hr
  exact hr.frozenAt q
def updC (C : Nat → List S62) (k : Nat) (c : List S62) : Nat → List S62 := fun j => if j = k then c else C j
theorem BlkC.store (h : BlkC W base v V B C) {k i g c : Nat} (hk : k < B.length) (hi : i < (C k).length) (hv : V k = .slice (some ⟨g, 0, none⟩) (C k).length c) (y : S62) :
    BlkC ((((((W.setCell ⟨g, i * 6, none⟩ (.int .u8 y.f0)).setCell ⟨g, i * 6 + 1, none⟩ (.int .i64 y.f1)).setCell ⟨g, i * 6 + 2, none⟩ (.int .i64 y.f2)).setCell ⟨g, i * 6 + 3, none⟩ (.int .i64 y.f3)).setCell ⟨g, i * 6 + 4, none⟩ (.int .i64 y.f4)).setCell ⟨g, i * 6 + 5, none⟩ (.string y.f5)) base v V B (updC C k ((C k).set i y)) := by
  have hfar : ∀ b, b ≠ g → (((((((W.setCell ⟨g, i * 6, none⟩ (.int .u8 y.f0)).setCell ⟨g, i * 6 + 1, none⟩ (.int .i64 y.f1)).setCell ⟨g, i * 6 + 2, none⟩ (.int .i64 y.f2)).setCell ⟨g, i * 6 + 3, none⟩ (.int .i64 y.f3)).setCell ⟨g, i * 6 + 4, none⟩ (.int .i64 y.f4)).setCell ⟨g, i * 6 + 5, none⟩ (.string y.f5))).heap[b]? = W.heap[b]? := fun b hb => by
    rw [Below.heap_setCell _ ⟨g, i * 6 + 5, none⟩ _ b hb, Below.heap_setCell _ ⟨g, i * 6 + 4, none⟩ _ b hb, Below.heap_setCell _ ⟨g, i * 6 + 3, none⟩ _ b hb, Below.heap_setCell _ ⟨g, i * 6 + 2, none⟩ _ b hb, Below.heap_setCell _ ⟨g, i * 6 + 1, none⟩ _ b hb, Below.heap_setCell _ ⟨g, i * 6, none⟩ _ b hb]
  have hr := h.row k hk
  have hgk : (V k).ownBlock = some g := by rw [hv]; rfl
  obtain ⟨csg, hcg⟩ := row_cells hr g hgk
  refine ⟨own_move h.own fun b hb => hfar b fun e => ?_, fun j hj => ?_, h.sep⟩
  · obtain ⟨cs, hcs⟩ := row_cells h.own b hb
    rw [e, hcg] at hcs
    injection hcs with hcs
    injection hcs with _ hcs
    exact absurd hcs (by decide)
  · by_cases e : j = k
    · subst e
      show World.ownsRow _ _ _ _ _ (updC C j ((C j).set i y) j).length (icells (updC C j ((C j).set i y) j))
      unfold updC
      rw [if_pos rfl, List.length_set, ← icells_set (C j) i hi y, hv]
      rw [hv] at hr
      exact (((((((hr.stored (i * 6) _).1.stored (i * 6 + 1) _).1.stored (i * 6 + 2) _).1.stored (i * 6 + 3) _).1.stored (i * 6 + 4) _).1.stored (i * 6 + 5) _).1)
    · show World.ownsRow _ _ _ _ _ (updC C k ((C k).set i y) j).length (icells (updC C k ((C k).set i y) j))
      unfold updC
      rw [if_neg e]
      exact own_move (h.row j hj) fun b hb => hfar b fun e2 => h.sep k j hk hj (Ne.symm e) g hgk (e2 ▸ hb)
end Go.Proofs.Ythgodpmahdnnjaa
end
section
namespace Go.Proofs.Ythgodpmahdnnjaa
open Go.RowKit Go.Proofs.YthgodpmahdnnjaaW.PrintWords Go.Proofs.YthgodpmahdnnjaaW.PrintMore Go.Proofs.Ythgodpmahdnnjaa.H
theorem befAny (nm : ByteArray) (N : Nat) (A2 : Option Addr) (n2 c2 : Nat) (A3 : Option Addr) (c3 : Nat) (B : List S43) (Ai : Option Addr) (ci : Nat) (Ao : Option Addr) (co n : Nat) (O : Nat → Nat) (W : World) (hn : B.length = n) (hB : k43.C W A3 n B) (hO : (Kd.slice 3 (Kd.int .i64)).C W Ao n (lstN O n)) (hc3 : n ≤ c3) (hco : n ≤ co) (hn1 : n ≤ 1000) (hcode : ∀ x ∈ B, x.f0.length ≤ 1000) (hN : N ≤ 30) (b i : Int) :
    Calls Try.prog 13 #[.agg #[.string nm, .int .i64 N, .slice A2 n2 c2, .slice A3 n c3], .agg #[.slice Ai n ci, .slice Ao n co], .int .i64 b, .int .i64 i] W fun e w' =>
    ∃ A c, e = .returned (.slice A (befoR N B (lstN O n) b i).length c) ∧ (befoR N B (lstN O n) b i).length ≤ c ∧ (Kd.int .i64).C w' A (befoR N B (lstN O n) b i).length (befoR N B (lstN O n) b i) ∧ Below W.heap.size W w' := by
  subst hn
  have hl := lstN_length O B.length
  have := Before_calls nm N A2 c2 n2 A3 c3 B Ai B.length ci Ao co (lstN O B.length) b i W hB hc3 hn1 hcode (by omega) (hl.symm ▸ hO) (by omega) (by omega) (fun x hx => by
    unfold lstN at hx
    obtain ⟨a, _, rfl⟩ := List.mem_map.1 hx
    exact Nat.le_trans (listN_le _) (by decide))
  rw [hl] at this
  refine this.mono ?_
  rintro e w' ⟨v, rfl, hR, hb⟩
  obtain ⟨A, c, rfl, hlc, hC⟩ := Kd.R_reads hR
  exact ⟨A, c, rfl, hlc, hC, hb⟩
theorem lsCon {W : World} {L : Option Addr} {d : Nat} (xs : List Int) (x : Int) (hn : xs.length ≤ 1000) (hC : (Kd.int .i64).C W L xs.length xs) (hd : xs.length ≤ d) :
    Calls Try.prog 29 #[.slice L xs.length d, .int .i64 x] W fun e w' => e = .returned (.bool (xs.contains x)) ∧ Below W.heap.size W w' := by
  refine (slices_Contains_int_int.calls 1001 L d xs x (xs.contains x) _ hC hd (contains_f xs x hn)).mono ?_
  rintro e w' ⟨rfl, h⟩
  exact ⟨rfl, h.below⟩
structure LbW (w0 : World) (nm : ByteArray) (N : Nat) (A2 : Option Addr) (n2 c2 : Nat) (A3 : Option Addr) (c3 : Nat) (B : List S43) (Ai : Option Addr) (ci : Nat) (Ao : Option Addr) (co : Nat) (O : Nat → Nat) (r : Int) (u : Bool) (Ac : Option Addr) (cc : Nat) (G : List S43) (Bi : Option Addr) (di : Nat) (Bo : Option Addr) (do_ : Nat) (O' : Nat → Nat) (gf gs gr gu gg gt : Nat) (W : World) : Prop where
  bf : W.heap[gf]? = some (.cells #[.string nm, .int .i64 N, .slice A2 n2 c2, .slice A3 B.length c3] 25 (0, 0))
  bs : W.heap[gs]? = some (.cells #[.slice Ai B.length ci, .slice Ao B.length co] 30 (0, 0))
  br : W.heap[gr]? = some (.cells #[.int .i64 r] 3 (0, 0))
  bu : W.heap[gu]? = some (.cells #[.bool u] 4 (0, 0))
  bg : W.heap[gg]? = some (.cells #[.string nm, .int .i64 N, .slice A2 n2 c2, .slice Ac B.length cc] 25 (0, 0))
  bt : W.heap[gt]? = some (.cells #[.slice Bi B.length di, .slice Bo B.length do_] 30 (0, 0))
  cB : k43.C W A3 B.length B
  cO : (Kd.slice 3 (Kd.int .i64)).C W Ao B.length (lstN O B.length)
  cG : k43.C W Ac B.length G
  cP : (Kd.slice 3 (Kd.int .i64)).C W Bo B.length (lstN O' B.length)
  bw : Below w0.heap.size w0 W
section
variable {w0 : World} {nm : ByteArray} {N : Nat} {A2 : Option Addr} {n2 c2 : Nat} {A3 : Option Addr} {c3 : Nat} {B : List S43} {Ai : Option Addr} {ci : Nat} {Ao : Option Addr} {co : Nat} {O : Nat → Nat} {r : Int} {u : Bool} {Ac : Option Addr} {cc : Nat} {G : List S43} {Bi : Option Addr} {di : Nat} {Bo : Option Addr} {do_ : Nat} {O' : Nat → Nat} {gf gs gr gu gg gt : Nat} {W W1 : World}
theorem LbW.step (h : LbW w0 nm N A2 n2 c2 A3 c3 B Ai ci Ao co O r u Ac cc G Bi di Bo do_ O' gf gs gr gu gg gt W) (hb : Below W.heap.size W W1) : LbW w0 nm N A2 n2 c2 A3 c3 B Ai ci Ao co O r u Ac cc G Bi di Bo do_ O' gf gs gr gu gg gt W1 :=
  ⟨heap_below h.bf hb, heap_below h.bs hb, heap_below h.br hb, heap_below h.bu hb, heap_below h.bg hb, heap_below h.bt hb, Kd.C_below h.cB hb, Kd.C_below h.cO hb, Kd.C_below h.cG hb, Kd.C_below h.cP hb, h.bw.trans (hb.mono h.bw.size)⟩
theorem cell1 {w : World} {g : Nat} {a : Value} {t : TypeId} (h : w.heap[g]? = some (.cells #[a] t (0, 0))) : w.cell? ⟨g, 0, none⟩ = some a := (blk_cell h 0).trans rfl
theorem LbW.cells (h : LbW w0 nm N A2 n2 c2 A3 c3 B Ai ci Ao co O r u Ac cc G Bi di Bo do_ O' gf gs gr gu gg gt W) :
    (W.cell? ⟨gf, 0, none⟩ = some (.string nm) ∧ W.cell? ⟨gf, 1, none⟩ = some (.int .i64 N) ∧ W.cell? ⟨gf, 2, none⟩ = some (.slice A2 n2 c2) ∧ W.cell? ⟨gf, 3, none⟩ = some (.slice A3 B.length c3) ∧ W.cell? ⟨gs, 0, none⟩ = some (.slice Ai B.length ci) ∧ W.cell? ⟨gs, 1, none⟩ = some (.slice Ao B.length co) ∧ W.cell? ⟨gr, 0, none⟩ = some (.int .i64 r)) ∧
    (W.cell? ⟨gu, 0, none⟩ = some (.bool u) ∧ W.cell? ⟨gg, 0, none⟩ = some (.string nm) ∧ W.cell? ⟨gg, 1, none⟩ = some (.int .i64 N) ∧ W.cell? ⟨gg, 2, none⟩ = some (.slice A2 n2 c2) ∧ W.cell? ⟨gg, 3, none⟩ = some (.slice Ac B.length cc) ∧ W.cell? ⟨gt, 0, none⟩ = some (.slice Bi B.length di) ∧ W.cell? ⟨gt, 1, none⟩ = some (.slice Bo B.length do_)) :=
  ⟨⟨(cells4 h.bf).1, (cells4 h.bf).2.1, (cells4 h.bf).2.2.1, (cells4 h.bf).2.2.2, (cells2 h.bs).1, (cells2 h.bs).2, cell1 h.br⟩, cell1 h.bu, (cells4 h.bg).1, (cells4 h.bg).2.1, (cells4 h.bg).2.2.1, (cells4 h.bg).2.2.2, (cells2 h.bt).1, (cells2 h.bt).2⟩
set_option maxHeartbeats 8000000 in
set_option maxRecDepth 100000 in
theorem ptB_calls (hc3 : B.length ≤ c3) (hco : B.length ≤ co) (hcc : B.length ≤ cc) (hdo : B.length ≤ do_) (hn : B.length ≤ 1000) (hcode : ∀ x ∈ B, x.f0.length ≤ 1000) (hG : G.length = B.length) (hgcode : ∀ x ∈ G, x.f0.length ≤ 1000) (hN : N ≤ 30) (b i : Int)
    (hlF : (befoR N B (lstN O B.length) b i).length ≤ 1000) (hlG : (befoR N G (lstN O' B.length) b i).length ≤ 1000) (hlaw : (befoR N B (lstN O B.length) b i).contains r = true → u = true ∧ (befoR N G (lstN O' B.length) b i).contains r = true)
    (w : World) (hW : LbW w0 nm N A2 n2 c2 A3 c3 B Ai ci Ao co O r u Ac cc G Bi di Bo do_ O' gf gs gr gu gg gt w) :
    Calls Try.prog 31 #[.int .i64 b, .int .i64 i, .pointer (some ⟨gf, 0, none⟩), .pointer (some ⟨gs, 0, none⟩), .pointer (some ⟨gr, 0, none⟩), .pointer (some ⟨gu, 0, none⟩), .pointer (some ⟨gg, 0, none⟩), .pointer (some ⟨gt, 0, none⟩)] w fun e w' => e = .returned (.bool true) ∧ Below w.heap.size w w' := by
  have HBEF := Lib.hid (fun (W : World) (h : LbW w0 nm N A2 n2 c2 A3 c3 B Ai ci Ao co O r u Ac cc G Bi di Bo do_ O' gf gs gr gu gg gt W) => befAny nm N A2 n2 c2 A3 c3 B Ai ci Ao co B.length O W rfl h.cB h.cO hc3 hco hn hcode hN b i)
  have HBEG := Lib.hid (fun (W : World) (h : LbW w0 nm N A2 n2 c2 A3 c3 B Ai ci Ao co O r u Ac cc G Bi di Bo do_ O' gf gs gr gu gg gt W) => befAny nm N A2 n2 c2 Ac cc G Bi di Bo do_ B.length O' W hG h.cG h.cP hcc hdo hn hgcode hN b i)
  obtain ⟨lF, hF⟩ : ∃ lF, lF = befoR N B (lstN O B.length) b i := ⟨_, rfl⟩
  obtain ⟨lG, hGl⟩ : ∃ lG, lG = befoR N G (lstN O' B.length) b i := ⟨_, rfl⟩
  rw [← hF] at HBEF hlF hlaw
  rw [← hGl] at HBEG hlG hlaw
  have HW0 := Lib.hid hW
  have HW := Lib.hid (hW.step (Below.refl _ w).drew)
  obtain ⟨q, hq⟩ : ∃ q, q = lF.contains r := ⟨_, rfl⟩
  have HQ := Lib.hid hq
  have HLAW := Lib.hid hlaw
  clear hF hGl hW hcode hgcode hq hlaw hG
  obtain ⟨⟨x0, x1, x2, x3, y0, y1, z⟩, _⟩ := HW.out.cells
  go_enter Try.func31, Try.ntmps31
  go_upto_region 1 with fail
  go_region_held3 (fun w' => w'.cell? ⟨gf, 0, none⟩ = some (.string nm) ∧ w'.cell? ⟨gf, 1, none⟩ = some (.int .i64 N) ∧ w'.cell? ⟨gf, 2, none⟩ = some (.slice A2 n2 c2) ∧ w'.cell? ⟨gf, 3, none⟩ = some (.slice A3 B.length c3) ∧ w'.cell? ⟨gs, 0, none⟩ = some (.slice Ai B.length ci) ∧ w'.cell? ⟨gs, 1, none⟩ = some (.slice Ao B.length co) ∧ w'.cell? ⟨gr, 0, none⟩ = some (.int .i64 r)) (first | exact ⟨by assumption, by assumption, by assumption, by assumption, by assumption, by assumption, by assumption⟩ | go_keep)
    (first
    | (go_at_call 29; refine (lsCon lF r hlF HC4.out hl4).mono ?_; rw [← HQ.out]; rintro e w5 ⟨rfl, hb5⟩; have HW5 := Lib.hid (HW4.out.step hb5); have HB5 := Lib.hid (HB4.out.trans (hb5.mono HB4.out.size)); clear hb5; obtain ⟨⟨s0, s1, s2, s3, s4, s5, s6⟩, _⟩ := HW5.out.cells)
    | (go_at_call 13; refine (HBEF.out w.drew HW.out).mono ?_; rintro e w4 ⟨A4, c4, rfl, hl4, hC4, hb4⟩; have HC4 := Lib.hid hC4; have HB4 := Lib.hid ((Below.refl w.heap.size w).drew.trans hb4); have HW4 := Lib.hid (HW.out.step hb4); clear hC4 hb4; obtain ⟨⟨p0, p1, p2, p3, p4, p5, p6⟩, _⟩ := HW4.out.cells)
    | fail)
  all_goals
    cases q with
    | false =>
      go_upto_region 2 with fail
      go_quiet (fail)
      go_wp2
      go_ret
      exact ⟨rfl, pw_below_drewN HB5.out _⟩
    | true =>
      obtain ⟨rfl, hg⟩ := HLAW.out HQ.out.symm
      have HGC := Lib.hid hg
      have HW6 := Lib.hid (HW5.out.step (Below.refl _ w5).drew)
      clear hg x0 x1 x2 x3 y0 y1 z p0 p1 p2 p3 p4 p5 p6 s0 s1 s2 s3 s4 s5 s6
      go_upto_region 2 with fail
      obtain ⟨⟨_, _, _, _, _, _, z⟩, x0, x1, x2, x3, x4, y0, y1⟩ := HW6.out.cells
      go_region_held3 (fun w' => w'.cell? ⟨gu, 0, none⟩ = some (.bool true) ∧ w'.cell? ⟨gg, 0, none⟩ = some (.string nm) ∧ w'.cell? ⟨gg, 1, none⟩ = some (.int .i64 N) ∧ w'.cell? ⟨gg, 2, none⟩ = some (.slice A2 n2 c2) ∧ w'.cell? ⟨gg, 3, none⟩ = some (.slice Ac B.length cc) ∧ w'.cell? ⟨gt, 0, none⟩ = some (.slice Bi B.length di) ∧ w'.cell? ⟨gt, 1, none⟩ = some (.slice Bo B.length do_) ∧ w'.cell? ⟨gr, 0, none⟩ = some (.int .i64 r)) (first | exact ⟨by assumption, by assumption, by assumption, by assumption, by assumption, by assumption, by assumption, by assumption⟩ | go_keep)
        (first
        | (go_at_call 29; refine (lsCon lG r hlG HC7.out hl7).mono ?_; rw [HGC.out]; rintro e w8 ⟨rfl, hb8⟩; have HW8 := Lib.hid (HW7.out.step hb8); have HB8 := Lib.hid (HB7.out.trans (hb8.mono HB7.out.size)); clear hb8; obtain ⟨⟨_, _, _, _, _, _, t0⟩, t1, t2, t3, t4, t5, t6, t7⟩ := HW8.out.cells)
        | (go_at_call 13; refine (HBEG.out w5.drew HW6.out).mono ?_; rintro e w7 ⟨A7, c7, rfl, hl7, hC7, hb7⟩; have HC7 := Lib.hid hC7; have HB7 := Lib.hid ((Below.refl w5.heap.size w5).drew.trans hb7); have HW7 := Lib.hid (HW6.out.step hb7); clear hC7 hb7; obtain ⟨⟨_, _, _, _, _, _, u0⟩, u1, u2, u3, u4, u5, u6, u7⟩ := HW7.out.cells)
        | fail)
      all_goals
        go_wp2_with fail
        go_ret
        exact ⟨rfl, HB5.out.trans (HB8.out.mono HB5.out.size)⟩
end
set_option maxHeartbeats 8000000 in
set_option maxRecDepth 100000 in
theorem pointsB_calls (nm : ByteArray) (N : Nat) (A2 : Option Addr) (n2 c2 : Nat) (A3 : Option Addr) (c3 : Nat) (B : List S43) (gf gs gr gu gg gt : Nat) (hn : B.length ≤ 1000) (hcode : ∀ x ∈ B, x.f0.length ≤ 1000) (w : World) (hW : k43.C w A3 B.length B)
    (hpt : ∀ b i : Nat, b < B.length → i ≤ (B.getD b z43).f0.length → ∀ W, Below w.heap.size w W →
      Calls Try.prog 31 #[.int .i64 b, .int .i64 i, .pointer (some ⟨gf, 0, none⟩), .pointer (some ⟨gs, 0, none⟩), .pointer (some ⟨gr, 0, none⟩), .pointer (some ⟨gu, 0, none⟩), .pointer (some ⟨gg, 0, none⟩), .pointer (some ⟨gt, 0, none⟩)] W fun e w' => e = .returned (.bool true) ∧ Below W.heap.size W w') :
    Calls Try.prog 16 #[.agg #[.string nm, .int .i64 N, .slice A2 n2 c2, .slice A3 B.length c3], .func (.func 31) #[] #[.pointer (some ⟨gf, 0, none⟩), .pointer (some ⟨gs, 0, none⟩), .pointer (some ⟨gr, 0, none⟩), .pointer (some ⟨gu, 0, none⟩), .pointer (some ⟨gg, 0, none⟩), .pointer (some ⟨gt, 0, none⟩)]] w fun e w' => e = .returned (.bool true) ∧ Below w.heap.size w w' := by
  have HPT := Lib.hid hpt
  have HW := Lib.hid hW
  have HCO := Lib.hid hcode
  clear hpt hW hcode
  go_enter Try.func16, Try.ntmps16
  go_wp2_with (first
    | ((with_reducible refine gate_dst (N := 2) rfl ?_); refine box_event ?hg (N := 2) ?hd (cs := #[.string nm, .int .i64 N, .slice A2 n2 c2, .slice A3 B.length c3]) (t := 25) ?hr ?_; (case hd => rfl); (case hg => rfl); (case hr => first | (go_simp; done) | (go_simp; rfl)); intro g1 hg1 w1 hbox1 hbw1; obtain ⟨z0, z1, z2, z3⟩ := cells4 hbox1; have HBW1 := Lib.hid hbw1; clear hbox1 hbw1 hg1)
    | fail)
  clear z0 z1 z2 z3
  go_loopw [11] (fun v wr => ∃ i : Nat, i ≤ B.length ∧ v = .int .i64 i ∧ Below w.heap.size w wr) (fun v _ => B.length - (intOf v).toNat)
  case atStart => exact ⟨0, Nat.zero_le _, rfl, HBW1.out⟩
  case round =>
    obtain ⟨i, hi, rfl, hb⟩ := hrel
    obtain ⟨wo, rfl⟩ : ∃ wo, wo = wr := ⟨_, rfl⟩
    by_cases hlt : i < B.length
    · obtain ⟨ad, A0, c0, hA3, q0, q1, q2, q3, q4, hl0, hC0⟩ := at_T43 (Kd.C_below HW.out hb) (i : Int) (by omega) (by omega)
      subst hA3
      rw [Int.toNat_natCast] at q0 q1 q2 q3 q4
      have hrd : rd_T43 B (i : Int) = B.getD i z43 := by unfold rd_T43; rw [Int.toNat_natCast]
      rw [hrd] at q0 q1 q2 q3 q4 hl0 hC0
      have hmem := memB hlt
      have hpti := HPT.out i
      obtain ⟨x, hx⟩ : ∃ x, x = B.getD i z43 := ⟨_, rfl⟩
      rw [← hx] at q0 q1 q2 q3 q4 hl0 hC0 hmem hpti
      have hcl := HCO.out x hmem
      have q1' : wo.cell? ⟨(ad.add (i * 5)).block, (ad.add (i * 5)).off + 1, none⟩ = some (.int .u8 x.f1) := q1
      have q2' : wo.cell? ⟨(ad.add (i * 5)).block, (ad.add (i * 5)).off + 2, none⟩ = some (.int .i64 x.f2) := q2
      have q3' : wo.cell? ⟨(ad.add (i * 5)).block, (ad.add (i * 5)).off + 3, none⟩ = some (.int .i64 x.f3) := q3
      have q4' : wo.cell? ⟨(ad.add (i * 5)).block, (ad.add (i * 5)).off + 4, none⟩ = some (.int .i64 x.f4) := q4
      have HB := Lib.hid hb
      have HPI := Lib.hid hpti
      clear hC0 hrd hx hmem q1 q2 q3 q4 hb hpti
      go_upto_region 4 with (first
        | ((with_reducible refine gate_dst (N := 6) rfl ?_); refine box_event ?hg (N := 6) ?hd (cs := #[.slice none 0 0, .int .u8 0, .int .i64 0, .int .i64 0, .int .i64 0]) (t := 43) ?hr ?_; (case hd => rfl); (case hg => rfl); (case hr => first | (go_simp; done) | (go_simp; rfl)); intro g5 hg5 w5 hbox5 hbw5; obtain ⟨y0, y1, y2, y3, y4⟩ := cells5 hbox5; have f0 := blk_frozen hbox5 0; have f1 := blk_frozen hbox5 1; have f2 := blk_frozen hbox5 2; have f3 := blk_frozen hbox5 3; have f4 := blk_frozen hbox5 4; have BK5 := Lib.hid hbox5; have HBW5 := Lib.hid hbw5; have HG5 := Lib.hid hg5; clear hbox5 hbw5 hg5)
        | fail)
      have hg5l : wo.heap.size ≤ g5 := by rw [HG5.out]; exact Nat.le_refl _
      obtain ⟨w6, hw6⟩ : ∃ w6, w6 = (((((w5.setCell ⟨g5, 0, none⟩ (.slice A0 x.f0.length c0)).setCell ⟨g5, 1, none⟩ (.int .u8 x.f1)).setCell ⟨g5, 2, none⟩ (.int .i64 x.f2)).setCell ⟨g5, 3, none⟩ (.int .i64 x.f3)).setCell ⟨g5, 4, none⟩ (.int .i64 x.f4)) := ⟨_, rfl⟩
      have hb6 : Below wo.heap.size wo w6 := by
        rw [hw6]
        exact ((((HBW5.out.setCell (p := ⟨g5, 0, none⟩) hg5l _).setCell (p := ⟨g5, 1, none⟩) hg5l _).setCell (p := ⟨g5, 2, none⟩) hg5l _).setCell (p := ⟨g5, 3, none⟩) hg5l _).setCell (p := ⟨g5, 4, none⟩) hg5l _
      have hk6 : w6.heap[g5]? = some (.cells #[.slice A0 x.f0.length c0, .int .u8 x.f1, .int .i64 x.f2, .int .i64 x.f3, .int .i64 x.f4] 43 (0, 0)) := by rw [hw6]; exact blk_five BK5.out _ _ _ _ _
      rw [← hw6]
      have HB6 := Lib.hid (HB.out.trans (hb6.mono HB.out.size))
      have HK6 := Lib.hid hk6
      clear hw6 hb6 hk6 hg5l y0 y1 y2 y3 y4 f0 f1 f2 f3 f4 q0 q1' q2' q3' q4' BK5 HBW5 HG5 HB
      go_wp2
      go_loopw [7] (fun v wq => ∃ j : Nat, j ≤ x.f0.length + 1 ∧ v = .int .i64 j ∧ Below w6.heap.size w6 wq) (fun v _ => x.f0.length + 1 - (intOf v).toNat)
      case atStart => exact ⟨0, Nat.zero_le _, rfl, Below.refl _ _⟩
      case round =>
        obtain ⟨j, hj, rfl, hbq⟩ := hrel
        obtain ⟨wq, rfl⟩ : ∃ wq, wq = wr := ⟨_, rfl⟩
        obtain ⟨y0, y1, y2, y3, y4⟩ := cells5 (heap_below HK6.out hbq)
        have HBQ := Lib.hid hbq
        have HWQ := Lib.hid (HB6.out.trans (hbq.mono HB6.out.size))
        clear hbq
        by_cases hjl : j ≤ x.f0.length
        · have HCALL := Lib.hid (HPI.out j hlt hjl wq HWQ.out)
          go_wp2_with (first | (go_at_call 31; refine HCALL.out.mono ?_; rintro e w7 ⟨rfl, hb7⟩; have HB7 := Lib.hid hb7; clear hb7) | fail)
          go_roundw
          case rel => exact ⟨j + 1, by omega, by go_num, HBQ.out.trans (HB7.out.mono HBQ.out.size)⟩
          case measure => simp [intOf]; omega
        · go_wp2
          go_roundw
          case rel => exact ⟨i + 1, by omega, by go_num, HB6.out.trans (HBQ.out.mono HB6.out.size)⟩
          case measure => simp [intOf]; omega
    · have e : i = B.length := by omega
      subst e
      have HB := Lib.hid hb
      clear hb
      go_wp2
      go_ret
      exact ⟨rfl, HB.out⟩
end Go.Proofs.Ythgodpmahdnnjaa
end
section
namespace Go.Proofs.Ythgodpmahdnnjaa
open Go.RowKit Go.Proofs.YthgodpmahdnnjaaW.PrintWords Go.Proofs.YthgodpmahdnnjaaW.PrintMore Go.Proofs.Ythgodpmahdnnjaa.H
theorem step_irows {ops : Array Oper} {o : Oper} {a : Act} {K : Act → World → Prop} {Q : Exit → Act → World → Prop} {E : Prop} {w8 : World} (h : Nat) (hgd : o.guard = none) (s y : Operand)
    (ho : o.op = .call { callee := .builtin .append, args := #[s, y], argTypes := #[41, 41] }) (hs : a.eval s = .slice (some ⟨h, 0, none⟩) 0 0) (A : Option Addr) (m c : Nat) (hx : a.eval y = .slice A m c)
    (hemp : w8.heap[h]? = some (.cells #[] 62 (0, 0))) (ys : List S62) (hC : k62.C w8 A m ys) (hm : m ≤ 1000)
    (hk : ∀ A1 c1 w', k62.R 62 w' h (fun _ => True) (.slice A1 m c1) ys → w8.grownBy w' (some h) → K (a.put o.dst (.slice A1 m c1)) w') :
    if Region.wanted o (yielded ops a.tmps) = true then Oper.wp Try.prog o a w8 K Q else E := by
  have hw : Region.wanted o (yielded ops a.tmps) = true := by simp [Region.wanted, hgd]
  have hlt := heap_lt hemp
  have HO : k62.R 62 w8 h (fun _ => True) (.slice (some ⟨h, 0, none⟩) 0 0) [] := ⟨fun _ _ => trivial, [], ⟨rfl, .inr ⟨h, 0, #[], rfl, Nat.le_refl _, hemp, Nat.le_refl _, by simp [maxLen], rfl, rfl⟩⟩, rfl, fun j p hp => by simp at hp⟩
  have hI : (Try.prog.info? 62).map (fun i => (i.zero, i.size, i.bytes)) = some (some (.agg #[.int .u8 0, .int .i64 0, .int .i64 0, .int .i64 0, .int .i64 0, .string ⟨#[]⟩]), 6, 56) := by kernel_rfl
  have := Kd.R_append_rows_step (P := Try.prog) (ops := ops) (o := o) (a := a) (Q := Q) (Kc := K) k62 (Rr := k62.K w8) (w0 := w8) h hw s y 41 62 _ 56 ho Try.underlying41 hI rfl (by decide) (by decide) _ [] ys A m c (fun _ => True) (fun _ => False) hs hx HO hC
    (fun x cs hx => by obtain rfl := k62_open hx; exact k62_mkM _ _ _ _) (fun _ hk => hk.elim) (fun _ _ => trivial) (Below.refl _ _) (Nat.le_of_lt hlt) (by simp; omega)
    (fun v1 w1 hR hB hg hat => by
      have hl : ys.length = m := hC.1
      rw [List.nil_append] at hR
      obtain ⟨A1, c1, rfl⟩ := Kd.R_slice hR
      rw [hl] at hR ⊢
      exact hk A1 c1 w1 hR hg)
  rw [if_pos hw] at this ⊢
  exact this
set_option maxHeartbeats 8000000 in
set_option maxRecDepth 100000 in
theorem copied_calls (nm : ByteArray) (R : Int) (A2 : Option Addr) (n2 c2 : Nat) (A3 : Option Addr) (c3 : Nat) (B : List S43) (w : World) (hC3 : k43.C w A3 B.length B) (hn : B.length ≤ 1000) (hcode : ∀ x ∈ B, x.f0.length ≤ 1000) :
    Calls Try.prog 28 #[.agg #[.string nm, .int .i64 R, .slice A2 n2 c2, .slice A3 B.length c3]] w
      fun e w' => ∃ v V, e = .returned (.agg #[.string nm, .int .i64 R, .slice A2 n2 c2, v]) ∧ Blk w' w.heap.size v V B ∧ Below w.heap.size w w' := by
  obtain ⟨U, hU, hrows⟩ := rows_of hC3
  have HU := Lib.hid hU
  have HROWS := Lib.hid hrows
  have HCO := Lib.hid hcode
  have HI := Lib.hid (show (Try.prog.info? 43).map (fun i => (i.zero, i.size, i.bytes)) = some (some (.agg #[.slice none 0 0, .int .u8 0, .int .i64 0, .int .i64 0, .int .i64 0]), 5, 56) by kernel_rfl)
  clear hU hrows hcode hC3
  go_enter Try.func28, Try.ntmps28
  go_upto_region 1 with (first
    | ((with_reducible refine gate_dst (N := 1) rfl ?_); refine box_event ?hg (N := 1) ?hd (cs := #[.string nm, .int .i64 R, .slice A2 n2 c2, .slice A3 B.length c3]) (t := 25) ?hr ?_; (case hd => rfl); (case hg => rfl); (case hr => first | (go_simp; done) | (go_simp; rfl)); intro g1 hg1 w1 hbox1 hbw1; have HBW1 := Lib.hid hbw1; have BK1 := Lib.hid hbox1; have HG1 := Lib.hid hg1; clear hbox1 hbw1 hg1)
    | ((with_reducible refine gate_dst (N := 2) rfl ?_); refine box_event ?hg (N := 2) ?hd (cs := #[.string ⟨#[]⟩, .int .i64 0, .slice none 0 0, .slice none 0 0]) (t := 25) ?hr ?_; (case hd => rfl); (case hg => rfl); (case hr => first | (go_simp; done) | (go_simp; rfl)); intro g2 hg2 w2 hbox2 hbw2; have HBW2 := Lib.hid hbw2; have BK2 := Lib.hid hbox2; have HG2 := Lib.hid hg2; clear hbox2 hbw2 hg2)
    | fail)
  have hg1l : g1 < w2.heap.size := Nat.lt_of_lt_of_le (heap_lt BK1.out) HBW2.out.size
  have hw2 : w.heap.size ≤ w2.heap.size := Nat.le_trans HBW1.out.size HBW2.out.size
  have h12 : g1 ≠ g2 := by have h1 := heap_lt BK1.out; have h2 := HG2.out; omega
  have HB2 := Lib.hid (HBW1.out.trans (HBW2.out.mono HBW1.out.size))
  have hk1 := heap_below BK1.out HBW2.out
  obtain ⟨z0, z1, z2, z3⟩ := cells4 hk1
  have z3a := cell_up z3 ((Below.refl w2.heap.size w2).alloc (Nat.le_refl _) (.cells #[] 43))
  have HK1A := Lib.hid (heap_below hk1 ((Below.refl w2.heap.size w2).alloc (Nat.le_refl _) (.cells #[] 43)))
  have HK2A := Lib.hid (heap_below BK2.out ((Below.refl w2.heap.size w2).alloc (Nat.le_refl _) (.cells #[] 43)))
  have HBA := Lib.hid (HB2.out.alloc HB2.out.size (.cells #[] 43))
  have HO := Lib.hid (show (Kd.raw 5).R 43 (w2.alloc (.cells #[] 43)) w.heap.size (fun _ => True) (.slice (some ⟨w2.heap.size, 0, none⟩) 0 0) [] from ⟨fun _ _ => trivial, [], ⟨rfl, .inr ⟨w2.heap.size, 0, #[], rfl, hw2, World.alloc_heap_new w2 _, Nat.le_refl _, by simp [maxLen], rfl, rfl⟩⟩, rfl, fun j p hp => by simp at hp⟩)
  have hRA : ReadsRow raw5 5 (w2.alloc (.cells #[] 43)) A3 B.length ((List.range B.length).map fun j => [U j, .int .u8 (B.getD j z43).f1, .int .i64 (B.getD j z43).f2, .int .i64 (B.getD j z43).f3, .int .i64 (B.getD j z43).f4]) := by
    refine ⟨HROWS.out.1, HROWS.out.2.1, fun hp => ?_⟩
    obtain ⟨ad, e, hc⟩ := HROWS.out.2.2 hp
    refine ⟨ad, e, fun j p hj => ?_⟩
    obtain ⟨c, h1, h2, h3⟩ := hc j p hj
    exact ⟨c, h1, h2, fun i u hu => cell_up (h3 i u hu) HBA.out⟩
  have HRA := Lib.hid hRA
  have hll : ([] : List (List Value)).length = 0 := rfl
  clear hRA z0 z1 z2 hk1 hll
  go_upto_region 2 with (first
    | (at_builtin; refine Kd.R_append_rows (Kd.raw 5) (Rr := raw5) (w0 := w) w.heap.size rfl _ _ 23 43 _ 56 rfl Try.underlying23 HI.out rfl (by decide) (by decide) _ [] _ A3 B.length c3 (fun _ => True) (fun _ => False) rfl rfl HO.out HRA.out (fun _ _ hx => hx) (fun _ hk => hk.elim) (fun _ _ => trivial) HBA.out HBA.out.size (by rw [List.length_nil]; omega) ?_; intro v3 w3 hR3 hb3 hg3 _; rw [List.nil_append] at hR3; have hown3 := raw_own hR3; obtain ⟨A, c, rfl⟩ := own_slice hown3; have hne : some g1 ≠ (Value.slice (some ⟨w2.heap.size, 0, none⟩) 0 0).ownBlock := (fun e => by (have e' : g1 = w2.heap.size := by simpa [Value.ownBlock] using e); omega); have k1 := (hg3.block g1 (heap_lt HK1A.out) hne).trans HK1A.out; have n3 := (blk_cell k1 3).trans rfl; have fr3 := blk_frozen k1 3; have HOWN3 := Lib.hid hown3; have HB3 := Lib.hid hb3; have HG3 := Lib.hid hg3; have HK13 := Lib.hid k1; clear hown3 hR3 hb3 hg3 k1 hne)
    | fail)
  obtain ⟨w4, hw4⟩ : ∃ w4, w4 = w3.setCell ⟨g1, 3, none⟩ (.slice A B.length c) := ⟨_, rfl⟩
  rw [← hw4]
  have hb4 : Below w.heap.size w w4 := by rw [hw4]; exact HB3.out.setCell (p := ⟨g1, 3, none⟩) (by rw [HG1.out]; exact Nat.le_refl _) _
  have hk14 : w4.heap[g1]? = some (.cells #[.string nm, .int .i64 R, .slice A2 n2 c2, .slice A B.length c] 25 (0, 0)) := by rw [hw4]; exact blk_put HK13.out 3 _ rfl
  have hne2 : some g2 ≠ (Value.slice (some ⟨w2.heap.size, 0, none⟩) 0 0).ownBlock := fun e => by
    have e' : g2 = w2.heap.size := by simpa [Value.ownBlock] using e
    have := heap_lt BK2.out
    omega
  have hk24 : w4.heap[g2]? = some (.cells #[.string ⟨#[]⟩, .int .i64 0, .slice none 0 0, .slice none 0 0] 25 (0, 0)) := by
    rw [hw4]
    exact (Below.heap_setCell w3 ⟨g1, 3, none⟩ _ g2 (Ne.symm h12)).trans ((HG3.out.block g2 (heap_lt HK2A.out) hne2).trans HK2A.out)
  have hown4 : w4.ownsRow w.heap.size 43 5 (.slice A B.length c) B.length (bcells U B) := by
    refine own_move HOWN3.out fun b hb => ?_
    rw [hw4]
    refine Below.heap_setCell w3 ⟨g1, 3, none⟩ _ b fun e => ?_
    have hn := own_base HOWN3.out b hb
    rw [show b = g1 from e] at hb
    rcases HOWN3.out.2 with ⟨h1, _⟩ | ⟨g, cap, cur, h1, _, hg, _⟩
    · rw [h1] at hb; cases hb
    · rw [h1] at hb
      have e2 : g = g1 := by simpa [Value.ownBlock] using hb
      rw [e2, HK13.out] at hg
      injection hg with hg
      injection hg with _ hg
      exact absurd hg (by decide)
  have HT := Lib.hid (show BlkTo 0 w4 w.heap.size (.slice A B.length c) U U B from ⟨hown4, fun j hj => absurd hj (Nat.not_lt_zero _), fun i j hi => absurd hi (Nat.not_lt_zero _), fun _ _ => rfl⟩)
  have HB4 := Lib.hid hb4
  have HK14 := Lib.hid hk14
  have HK24 := Lib.hid hk24
  obtain ⟨z0, z1, z2, z3⟩ := cells4 hk14
  clear hw4 hb4 hk14 hne2 hk24 hown4 z3a n3 fr3 HOWN3 HG3 HK13 HB3 HK1A HK2A HBA HO HRA BK1 BK2 HBW2 HB2 h12
  go_wp2
  go_loopw [12] (fun v wr => ∃ (k : Nat) (V : Nat → Value), k ≤ B.length ∧ v = .int .i64 k ∧ BlkTo k wr w.heap.size (.slice A B.length c) V U B ∧ wr.heap[g1]? = some (.cells #[.string nm, .int .i64 R, .slice A2 n2 c2, .slice A B.length c] 25 (0, 0)) ∧ wr.heap[g2]? = some (.cells #[.string ⟨#[]⟩, .int .i64 0, .slice none 0 0, .slice none 0 0] 25 (0, 0)) ∧ Below w.heap.size w wr) (fun v _ => B.length - (intOf v).toNat)
  case atStart => exact ⟨0, U, Nat.zero_le _, rfl, HT.out, HK14.out, HK24.out, HB4.out⟩
  case round =>
    obtain ⟨k, V, hk, rfl, hT, hk1, hk2, hb⟩ := hrel
    obtain ⟨wo, rfl⟩ : ∃ wo, wo = wr := ⟨_, rfl⟩
    clear z0 z1 z2 z3
    by_cases hlt : k < B.length
    · obtain ⟨g, cap, hv, hgb, hgl⟩ := hT.own.form (by omega)
      obtain ⟨ad, hA, had⟩ : ∃ ad : Addr, A = some ad ∧ ad = ⟨g, 0, none⟩ := ⟨⟨g, 0, none⟩, by injection hv, rfl⟩
      have hc : c = cap := by injection hv
      subst hA hc
      obtain ⟨A0, c0, hU0, hl0, hC0⟩ := HU.out k hlt
      have hmem := memB hlt
      obtain ⟨x, hx⟩ : ∃ x, x = B.getD k z43 := ⟨_, rfl⟩
      rw [← hx] at hU0 hl0 hC0 hmem
      have hcl := HCO.out x hmem
      have q0 : wo.cell? (ad.add (k * 5)) = some (.slice A0 x.f0.length c0) := by
        rw [had, add_plain]
        have h1 := hT.own.cells (g := g) (by rw [had]; rfl) (k * 5) (V k) (by rw [bcells_get (by omega), bcell0])
        rw [add_plain] at h1
        rw [h1, hT.old k (Nat.le_refl _), hU0]
      have f0 : wo.frozen? (ad.add (k * 5)) = false := by
        rw [had, add_plain]
        have h1 := hT.own
        rw [had] at h1
        exact h1.frozenAt _
      obtain ⟨z0, z1, z2, z3⟩ := cells4 hk1
      have HC0 := Lib.hid (Kd.C_below hC0 hb)
      have HX := Lib.hid hx
      have HAD := Lib.hid had
      have HT := Lib.hid hT
      have HK1 := Lib.hid hk1
      have HK2 := Lib.hid hk2
      have HB := Lib.hid hb
      clear hv hU0 hl0 hC0 hmem hx had hT hk1 hk2 hb
      go_upto_region 5 with fail
      have hbd : Below wo.heap.size wo (wo.alloc (.cells #[] 62)).drew := ((Below.refl wo.heap.size wo).alloc (Nat.le_refl _) (.cells #[] 62)).drew
      have za := cell_up z3 ((Below.refl wo.heap.size wo).alloc (Nat.le_refl _) (.cells #[] 62))
      have qa := cell_up q0 ((Below.refl wo.heap.size wo).alloc (Nat.le_refl _) (.cells #[] 62))
      have HEMP := Lib.hid (show (wo.alloc (.cells #[] 62)).drew.heap[wo.heap.size]? = some (.cells #[] 62 (0, 0)) from World.alloc_heap_new wo _)
      have HCA := Lib.hid (Kd.C_below HC0.out hbd)
      have hg1o := heap_lt HK1.out
      have hado : (ad.add (k * 5)).block < wo.heap.size := World.block_lt_of_cell? wo _ q0
      have hsz : wo.heap.size < (wo.alloc (.cells #[] 62)).drew.heap.size := by show _ < (wo.alloc _).heap.size; rw [alloc_size1]; omega
      have hgt : ∀ {g' : Nat} {cells : Array Value}, wo.heap[g']? = some (.cells cells 25 (0, 0)) → g' ≠ (ad.add (k * 5)).block := fun {g' cells} hg' e => by
        have h1 := HT.out.own
        rw [HAD.out] at h1
        have e2 : g' = g := by rw [e, HAD.out, add_plain]
        rcases h1.2 with ⟨h3, _⟩ | ⟨g2', cap', cur, h3, _, hg2', _⟩
        · cases h3
        · have e3 : g2' = g := by injection h3 with h3 _ _; injection h3 with h3; injection h3 with h3; exact h3.symm
          rw [e3, ← e2, hg'] at hg2'
          injection hg2' with hg2'
          injection hg2' with _ hg2'
          exact absurd hg2' (by decide)
      have hg1a := hgt HK1.out
      have hg2a := hgt HK2.out
      have hpa : ad.add (k * 5) = ⟨g, k * 5, none⟩ := by rw [HAD.out, add_plain]
      have HPA := Lib.hid hpa
      clear hgt hpa
      have HBD := Lib.hid hbd
      clear hbd
      go_region_law
        (first
        | (refine step_irows (w8 := (wo.alloc (.cells #[] 62)).drew) wo.heap.size rfl _ _ rfl rfl A0 x.f0.length c0 rfl HEMP.out x.f0 HCA.out hcl ?_; intro A9 c9 w9 hR9 hg9; have n1 := (hg9.block g1 (by omega) (by simp; omega)).trans ((HBD.out.block g1 hg1o).trans HK1.out); have z9 := (blk_cell n1 3).trans rfl; have m9 := (hg9.block (ad.add (k * 5)).block (by omega) (by simp; omega)).trans (HBD.out.block (ad.add (k * 5)).block hado); have q9 := (World.cell?_of_block (a := ad.add (k * 5)) m9).trans q0; have f9 := (World.frozen?_of_block (a := ad.add (k * 5)) m9).trans f0; have y9 := (World.cell?_of_block (a := ⟨g1, 3, none⟩) (Below.heap_setCell w9 (ad.add (k * 5)) (.slice A9 x.f0.length c9) g1 hg1a)).trans z9; have HR9 := Lib.hid hR9; have HG9 := Lib.hid hg9; clear n1 m9 hR9 hg9)
        | fail)
      all_goals
        have hWb : Below wo.heap.size wo w9 := HBD.out.grown HG9.out (by omega) (fun b hb => by have e : wo.heap.size = b := by simpa using hb
                                                                                                omega)
        have hT' := HT.out
        rw [HAD.out] at hT'
        have hbase := HB.out.size
        have hN := hT'.next (u := .slice A9 x.f0.length c9) hlt hWb hgb hbase (Nat.le_refl _) (by rw [← HX.out]; exact HR9.out)
        rw [← HPA.out, ← HAD.out] at hN
        have HN := Lib.hid hN
        have HK1N := Lib.hid ((Below.heap_setCell w9 (ad.add (k * 5)) (.slice A9 x.f0.length c9) g1 hg1a).trans ((hWb.block g1 hg1o).trans HK1.out))
        have HK2N := Lib.hid ((Below.heap_setCell w9 (ad.add (k * 5)) (.slice A9 x.f0.length c9) g2 hg2a).trans ((hWb.block g2 (heap_lt HK2.out)).trans HK2.out))
        have HBN := Lib.hid ((HB.out.trans (hWb.mono hbase)).setCell (p := ad.add (k * 5)) (by rw [HPA.out]; exact hgb) (.slice A9 x.f0.length c9))
        clear hT' hN hWb z9 q9 f9 y9 za qa
        go_wp2
        go_roundw
        case rel => exact ⟨k + 1, _, by omega, by go_num, HN.out, HK1N.out, HK2N.out, HBN.out⟩
        case measure => simp [intOf]; omega
    · have e : k = B.length := by omega
      subst e
      have HBK := Lib.hid hT.all
      have HK2 := Lib.hid hk2
      have HB := Lib.hid hb
      obtain ⟨z0, z1, z2, z3⟩ := cells4 hk1
      obtain ⟨x0, x1, x2, x3⟩ := cells4 hk2
      have f0 := blk_frozen hk2 0
      have f1 := blk_frozen hk2 1
      have f2 := blk_frozen hk2 2
      have f3 := blk_frozen hk2 3
      clear hT hk1 hk2 hb
      go_wp2
      have hkz := blk_four HK2.out (.string nm) (.int .i64 R) (.slice A2 n2 c2) (.slice A B.length c)
      have hT4 := ((((HBK.out.to.set HK2.out (by decide) (by decide) 0 (.string nm)).set (blk_put HK2.out 0 (.string nm) rfl) (by decide) (by decide) 1 (.int .i64 R)).set (blk_put (blk_put HK2.out 0 (.string nm) rfl) 1 (.int .i64 R) rfl) (by decide) (by decide) 2 (.slice A2 n2 c2)).set (blk_put (blk_put (blk_put HK2.out 0 (.string nm) rfl) 1 (.int .i64 R) rfl) 2 (.slice A2 n2 c2) rfl) (by decide) (by decide) 3 (.slice A B.length c)).all
      have HG2L : w.heap.size ≤ g2 := by rw [HG2.out]; exact HBW1.out.size
      have HBZ := Lib.hid ((((HB.out.setCell (p := ⟨g2, 0, none⟩) HG2L (.string nm)).setCell (p := ⟨g2, 1, none⟩) HG2L (.int .i64 R)).setCell (p := ⟨g2, 2, none⟩) HG2L (.slice A2 n2 c2)).setCell (p := ⟨g2, 3, none⟩) HG2L (.slice A B.length c))
      obtain ⟨wz, hwz⟩ : ∃ wz, wz = ((((wo.setCell ⟨g2, 0, none⟩ (.string nm)).setCell ⟨g2, 1, none⟩ (.int .i64 R)).setCell ⟨g2, 2, none⟩ (.slice A2 n2 c2)).setCell ⟨g2, 3, none⟩ (.slice A B.length c)) := ⟨_, rfl⟩
      rw [← hwz] at hkz hT4 HBZ ⊢
      have HTZ := Lib.hid hT4
      clear hwz hT4 x0 x1 x2 x3 f0 f1 f2 f3 z0 z1 z2 z3
      obtain ⟨x0, x1, x2, x3⟩ := cells4 hkz
      (try simp only [Exit.inBlock, Exit.then])
      refine bodyPost_ret (v := .agg #[.string nm, .int .i64 R, .slice A2 n2 c2, .slice A B.length c]) ?hr rfl ?_
      case hr =>
        unfold results
        rw [show Try.f28.results = #[.cell 2 25] from rfl]
        simp
        go_simp
      exact ⟨_, V, rfl, HTZ.out, HBZ.out⟩
end Go.Proofs.Ythgodpmahdnnjaa
end
section
namespace Go.Proofs.Ythgodpmahdnnjaa
open Go.RowKit Go.Proofs.YthgodpmahdnnjaaW.PrintWords Go.Proofs.YthgodpmahdnnjaaW.PrintMore Go.Proofs.Ythgodpmahdnnjaa.H
def smallB (R : Int) (B : List S43) : Bool := decide (B.length ≤ 10) && decide (R ≤ 12) && B.all fun b => decide (b.f0.length ≤ 20)
theorem small_l0 {B : List S43} (hn : B.length ≤ 10) : ∀ (d i k : Nat), i + d = B.length → d < k → ontimelaw19_small.l0 k B (B.length : Int) (i : Int) = some ((B.drop i).all fun b => decide (b.f0.length ≤ 20))
  | 0, i, k, hi, hk => by
    obtain ⟨k, rfl⟩ := k_add hk
    rw [ontimelaw19_small.l0, if_neg (by omega), List.drop_eq_nil_of_le (by omega)]; rfl
  | d + 1, i, k, hi, hk => by
    obtain ⟨k, rfl⟩ := k_add (show 1 ≤ k by omega)
    have hlt : i < B.length := by omega
    have hrd : rd_T43 B (i : Int) = B[i] := by unfold rd_T43; rw [Int.toNat_natCast, List.getD_eq_getElem?_getD, List.getElem?_eq_getElem hlt]; rfl
    rw [ontimelaw19_small.l0, if_pos (by omega), if_pos (by omega), if_pos (by omega), hrd, List.drop_eq_getElem_cons hlt, List.all_cons]
    by_cases h : (B[i].f0.length : Int) > 20
    · rw [if_pos h, decide_eq_false (by omega)]; rfl
    · rw [if_neg h, decide_eq_true (show B[i].f0.length ≤ 20 by omega), wr64 (by omega), Bool.true_and]
      exact small_l0 hn d (i + 1) k (by omega) (by omega)
theorem small_f (nm : ByteArray) (R : Int) (ar : List S107) (B : List S43) : ontimelaw19_small.f 20 nm R ar B = some (smallB R B) := by
  unfold ontimelaw19_small.f smallB
  by_cases h1 : (B.length : Int) > 10
  · rw [if_pos h1, decide_eq_false (show ¬ B.length ≤ 10 by omega)]
    rw [ontimelaw19_small.j0, if_pos rfl]; rfl
  · rw [if_neg h1, decide_eq_true (show B.length ≤ 10 by omega), ontimelaw19_small.j0]
    by_cases h2 : R > 12
    · rw [if_pos (decide_eq_true h2), decide_eq_false (show ¬ R ≤ 12 by omega)]; rfl
    · rw [if_neg (by rw [decide_eq_false h2]; simp), decide_eq_true (show R ≤ 12 by omega), Bool.true_and, Bool.true_and]
      exact small_l0 (by omega) B.length 0 19 (by omega) (by omega)
theorem small_of {R : Int} {B : List S43} (h : smallB R B = true) : B.length ≤ 10 ∧ R ≤ 12 ∧ ∀ x ∈ B, x.f0.length ≤ 20 := by
  unfold smallB at h
  rw [Bool.and_eq_true, Bool.and_eq_true, decide_eq_true_eq, decide_eq_true_eq, List.all_eq_true] at h
  exact ⟨h.1.1, h.1.2, fun x hx => of_decide_eq_true (h.2 x hx)⟩
def formB (R : Int) (B : List S43) : Bool := smallB R B && wfB R B
set_option maxHeartbeats 4000000 in
set_option maxRecDepth 100000 in
theorem form_calls (nm : ByteArray) (R : Int) (A2 : Option Addr) (c2 : Nat) (ar : List S107) (A3 : Option Addr) (c3 : Nat) (B : List S43) (w : World) (hC2 : k107.C w A2 ar.length ar) (hc2 : ar.length ≤ c2) (hC3 : k43.C w A3 B.length B) (hc3 : B.length ≤ c3) :
    Calls Try.prog 23 #[.agg #[.string nm, .int .i64 R, .slice A2 ar.length c2, .slice A3 B.length c3]] w fun e w' => e = .returned (.bool (formB R B)) ∧ Below w.heap.size w w' := by
  obtain ⟨o, ho⟩ : ∃ o, o = smallB R B := ⟨_, rfl⟩
  have HO := Lib.hid ho
  have HC2 := Lib.hid hC2
  have HC3 := Lib.hid hC3
  have HSM := Lib.hid (small_f nm R ar B)
  clear hC2 hC3
  cases o with
  | false =>
    have HF := Lib.hid (show formB R B = false by unfold formB; rw [← HO.out]; rfl)
    clear ho
    go_enter Try.func23, Try.ntmps23
    go_wp2_with (first
      | ((with_reducible refine gate_dst (N := 1) rfl ?_); refine box_event ?hg (N := 1) ?hd (cs := #[.string nm, .int .i64 R, .slice A2 ar.length c2, .slice A3 B.length c3]) (t := 25) ?hr ?_; (case hd => rfl); (case hg => rfl); (case hr => first | (go_simp; done) | (go_simp; rfl)); intro g1 hg1 w1 hbox1 hbw1; have HBW1 := Lib.hid hbw1; obtain ⟨z0, z1, z2, z3⟩ := cells4 hbox1; clear hbox1 hbw1 hg1)
      | (go_at_call 9; refine (ontimelaw19_small.calls 20 nm R A2 c2 ar A3 c3 B _ _ (Kd.C_below HC2.out HBW1.out) hc2 (Kd.C_below HC3.out HBW1.out) hc3 HSM.out).mono ?_; rw [← HO.out]; rintro e w3 ⟨rfl, hb3⟩; have HB3 := Lib.hid hb3; clear hb3)
      | fail)
    go_ret
    exact ⟨by rw [HF.out]; rfl, HBW1.out.trans (HB3.out.mono HBW1.out.size)⟩
  | true =>
    obtain ⟨hn, hR, hco⟩ := small_of ho.symm
    have hn1 : B.length ≤ 1000 := by omega
    have HCO := Lib.hid (show ∀ x ∈ B, x.f0.length ≤ 1000 from fun x hx => Nat.le_trans (hco x hx) (by decide))
    have HF := Lib.hid (show formB R B = wfB R B by unfold formB; rw [← HO.out]; rfl)
    obtain ⟨q, hq⟩ : ∃ q, q = wfB R B := ⟨_, rfl⟩
    have HQ := Lib.hid hq
    clear hco ho hq
    go_enter Try.func23, Try.ntmps23
    go_wp2_with (first
      | ((with_reducible refine gate_dst (N := 1) rfl ?_); refine box_event ?hg (N := 1) ?hd (cs := #[.string nm, .int .i64 R, .slice A2 ar.length c2, .slice A3 B.length c3]) (t := 25) ?hr ?_; (case hd => rfl); (case hg => rfl); (case hr => first | (go_simp; done) | (go_simp; rfl)); intro g1 hg1 w1 hbox1 hbw1; have HBW1 := Lib.hid hbw1; have BK1 := Lib.hid hbox1; obtain ⟨z0, z1, z2, z3⟩ := cells4 hbox1; clear hbox1 hbw1 hg1)
      | (go_at_call 9; refine (ontimelaw19_small.calls 20 nm R A2 c2 ar A3 c3 B _ _ (Kd.C_below HC2.out HBW1.out) hc2 (Kd.C_below HC3.out HBW1.out) hc3 HSM.out).mono ?_; rw [← HO.out]; rintro e w3 ⟨rfl, hb3⟩; have HB3 := Lib.hid hb3; have BK3 := Lib.hid (heap_below BK1.out hb3); clear hb3 z0 z1 z2 z3; obtain ⟨z0, z1, z2, z3⟩ := cells4 BK3.out)
      | (go_at_call 11; refine (Plain_calls nm R A2 ar.length c2 A3 c3 B _ (Kd.C_below (Kd.C_below HC3.out HBW1.out) HB3.out) hn1 HCO.out).mono ?_; rintro e w7 ⟨Am, cm, rfl, hlm, hCm, hb7⟩; have HCm := Lib.hid hCm; have HB7 := Lib.hid hb7; clear hCm hb7 z0 z1 z2 z3)
      | (go_at_call 12; refine (Form_calls nm R A2 ar.length c2 Am cm B _ HCm.out hn1 HCO.out).mono ?_; rw [← HQ.out]; rintro e w10 ⟨rfl, hb10⟩; have HB10 := Lib.hid hb10; clear hb10)
      | fail)
    go_ret
    exact ⟨by rw [HF.out, ← HQ.out]; rfl, HBW1.out.trans ((HB3.out.trans ((HB7.out.trans (HB10.out.mono HB7.out.size)).mono HB3.out.size)).mono HBW1.out.size)⟩
end Go.Proofs.Ythgodpmahdnnjaa
end
section
namespace Go.Proofs.Ythgodpmahdnnjaa
open Go.RowKit Go.Proofs.YthgodpmahdnnjaaW.PrintWords Go.Proofs.YthgodpmahdnnjaaW.PrintMore Go.Proofs.Ythgodpmahdnnjaa.H
def Ck (r : Int) (B : List S43) (k i : Nat) (j : Nat) : List S62 :=
  if j < k then (B.getD j z43).f0.map (repl r) else if j = k then ((B.getD j z43).f0.take i).map (repl r) ++ (B.getD j z43).f0.drop i else (B.getD j z43).f0
theorem Ck_zero (r : Int) (B : List S43) (j : Nat) : Ck r B 0 0 j = (B.getD j z43).f0 := by
  unfold Ck
  rw [if_neg (by omega)]
  split
  · simp
  · rfl
theorem Ck_next (r : Int) (B : List S43) (k j : Nat) : Ck r B (k + 1) 0 j = Ck r B k (B.getD k z43).f0.length j := by
  unfold Ck
  by_cases h1 : j < k
  · rw [if_pos (by omega), if_pos h1]
  · by_cases h2 : j = k
    · subst h2
      rw [if_pos (by omega), if_neg (by omega), if_pos rfl, List.take_length, List.drop_length, List.append_nil]
    · rw [if_neg (by omega), if_neg h1, if_neg h2]
      split
      · simp
      · rfl
theorem Ck_len (r : Int) (B : List S43) (k i j : Nat) : (Ck r B k i j).length = (B.getD j z43).f0.length := by
  unfold Ck
  split
  · simp
  · split
    · simp; omega
    · rfl
theorem Ck_at {r : Int} {B : List S43} {k i : Nat} (hi : i < (B.getD k z43).f0.length) : (Ck r B k i k).getD i z62 = (B.getD k z43).f0.getD i z62 := by
  unfold Ck
  rw [if_neg (by omega), if_pos rfl]
  obtain ⟨l, hl⟩ : ∃ l, l = (B.getD k z43).f0 := ⟨_, rfl⟩
  rw [← hl] at hi ⊢
  rw [List.getD_eq_getElem?_getD, List.getD_eq_getElem?_getD, List.getElem?_append_right (by simp; omega), List.getElem?_drop]
  simp only [List.length_map, List.length_take]
  rw [show i + (i - min i l.length) = i by omega]
theorem Ck_step {r : Int} {B : List S43} {k i : Nat} (hi : i < (B.getD k z43).f0.length) (j : Nat) : Ck r B k (i + 1) j = updC (Ck r B k i) k ((Ck r B k i k).set i (repl r ((B.getD k z43).f0.getD i z62))) j := by
  unfold updC
  by_cases h2 : j = k
  · subst h2
    rw [if_pos rfl]
    unfold Ck
    rw [if_neg (by omega), if_pos rfl, if_neg (by omega), if_pos rfl]
    obtain ⟨l, hl⟩ : ∃ l, l = (B.getD j z43).f0 := ⟨_, rfl⟩
    rw [← hl] at hi ⊢
    rw [List.set_append_right _ _ (by simp; omega)]
    simp only [List.length_map, List.length_take]
    rw [show i - min i l.length = 0 by omega, List.drop_eq_getElem_cons hi, List.set_cons_zero, List.take_succ_eq_append_getElem hi, List.map_append, List.getD_eq_getElem?_getD, List.getElem?_eq_getElem hi]
    simp
  · rw [if_neg h2]
    unfold Ck
    rw [if_neg h2, if_neg h2]
theorem Ck_same {r : Int} {B : List S43} {k i : Nat} (hi : i < (B.getD k z43).f0.length) (hp : pureB r ((B.getD k z43).f0.getD i z62) = false) (j : Nat) : Ck r B k (i + 1) j = Ck r B k i j := by
  rw [Ck_step hi]
  unfold updC
  by_cases h2 : j = k
  · subst h2
    rw [if_pos rfl]
    have hr : repl r ((B.getD j z43).f0.getD i z62) = (Ck r B j i j).getD i z62 := by
      rw [Ck_at hi]
      unfold repl
      rw [hp]; rfl
    rw [hr]
    apply List.ext_getElem?
    intro q
    rw [List.getElem?_set]
    split
    · rename_i e
      subst e
      have hl : i < (Ck r B j i j).length := by rw [Ck_len]; exact hi
      rw [if_pos hl, List.getD_eq_getElem?_getD, List.getElem?_eq_getElem hl]; rfl
    · rfl
  · rw [if_neg h2]
theorem withC_all (r : Int) (B : List S43) : withC B (Ck r B B.length 0) = B.map (replB r) := by
  apply List.ext_getElem?
  intro j
  by_cases hj : j < B.length
  · unfold withC
    rw [List.getElem?_map, List.getElem?_range hj, List.getElem?_map, List.getElem?_eq_getElem hj]
    have hg : B.getD j z43 = B[j] := by rw [List.getD_eq_getElem?_getD, List.getElem?_eq_getElem hj]; rfl
    have hc : Ck r B B.length 0 j = (B.getD j z43).f0.map (repl r) := by unfold Ck; rw [if_pos hj]
    show some (⟨Ck r B B.length 0 j, (B.getD j z43).f1, (B.getD j z43).f2, (B.getD j z43).f3, (B.getD j z43).f4⟩ : S43) = some (replB r B[j])
    rw [hc, hg]
    rfl
  · rw [List.getElem?_eq_none (by rw [withC_length]; omega), List.getElem?_eq_none (by rw [List.length_map]; omega)]
def usedTo (r : Int) (B : List S43) (k : Nat) : Bool := (B.take k).any (usedIn r)
def usedAt (r : Int) (B : List S43) (k i : Nat) : Bool := usedTo r B k || useX r (B.getD k z43) || ((B.getD k z43).f0.take i).any (useI r)
theorem usedTo_next {r : Int} {B : List S43} {k : Nat} (hk : k < B.length) : usedTo r B (k + 1) = usedAt r B k (B.getD k z43).f0.length := by
  unfold usedAt usedTo
  rw [List.take_length, List.take_succ_eq_append_getElem hk, List.any_append, List.getD_eq_getElem?_getD, List.getElem?_eq_getElem hk]
  simp [Bool.or_assoc, usedIn]
theorem usedAt_next {r : Int} {B : List S43} {k i : Nat} (hi : i < (B.getD k z43).f0.length) : usedAt r B k (i + 1) = (usedAt r B k i || useI r ((B.getD k z43).f0.getD i z62)) := by
  unfold usedAt
  rw [List.take_succ_eq_append_getElem hi, List.any_append, List.getD_eq_getElem?_getD (l := (B.getD k z43).f0), List.getElem?_eq_getElem hi]
  simp [Bool.or_assoc]
theorem usedAt_zero (r : Int) (B : List S43) (k : Nat) : usedAt r B k 0 = (usedTo r B k || useX r (B.getD k z43)) := by
  unfold usedAt; simp
structure LbV (wB : World) (g8 g9 : Nat) (nm : ByteArray) (N : Nat) (A2 : Option Addr) (n2 c2 : Nat) (Ac : Option Addr) (cc : Nat) (V : Nat → Value) (B : List S43) (C : Nat → List S62) (u : Bool) (W : World) : Prop where
  bel : Below wB.heap.size wB W
  b8 : W.heap[g8]? = some (.cells #[.string nm, .int .i64 N, .slice A2 n2 c2, .slice Ac B.length cc] 25 (0, 0))
  b9 : W.heap[g9]? = some (.cells #[.bool u] 4 (0, 0))
  l9 : wB.heap.size ≤ g9
  blk : BlkC W wB.heap.size (.slice Ac B.length cc) V B C
section
variable {wB : World} {g8 g9 : Nat} {nm : ByteArray} {N : Nat} {A2 : Option Addr} {n2 c2 : Nat} {Ac : Option Addr} {cc : Nat} {V : Nat → Value} {B : List S43} {C C' : Nat → List S62} {u : Bool} {W W1 : World}
theorem LbV.below (h : LbV wB g8 g9 nm N A2 n2 c2 Ac cc V B C u W) (hb : Below W.heap.size W W1) : LbV wB g8 g9 nm N A2 n2 c2 Ac cc V B C u W1 :=
  ⟨h.bel.trans (hb.mono h.bel.size), heap_below h.b8 hb, heap_below h.b9 hb, h.l9, h.blk.below hb⟩
theorem LbV.congr (h : LbV wB g8 g9 nm N A2 n2 c2 Ac cc V B C u W) (hc : ∀ j, C' j = C j) : LbV wB g8 g9 nm N A2 n2 c2 Ac cc V B C' u W := ⟨h.bel, h.b8, h.b9, h.l9, h.blk.congr fun j _ => hc j⟩
theorem LbV.use (h : LbV wB g8 g9 nm N A2 n2 c2 Ac cc V B C u W) (u' : Bool) : LbV wB g8 g9 nm N A2 n2 c2 Ac cc V B C u' (W.setCell ⟨g9, 0, none⟩ (.bool u')) :=
  ⟨h.bel.setCell (p := ⟨g9, 0, none⟩) h.l9 _, (Below.heap_setCell W ⟨g9, 0, none⟩ _ g8 fun e => by
    have e2 : g8 = g9 := e
    have := h.b8
    rw [e2, h.b9] at this
    injection this with this
    injection this with _ this
    exact absurd this (by decide)).trans h.b8, blk_put h.b9 0 _ rfl, h.l9, h.blk.set h.b9 (by decide) (by decide) 0 _⟩
end
theorem LbV.store {wB : World} {g8 g9 : Nat} {nm : ByteArray} {N : Nat} {A2 : Option Addr} {n2 c2 : Nat} {Ac : Option Addr} {cc : Nat} {V : Nat → Value} {B : List S43} {C : Nat → List S62} {u : Bool} {W : World} (h : LbV wB g8 g9 nm N A2 n2 c2 Ac cc V B C u W) {k i g c : Nat} (hk : k < B.length) (hi : i < (C k).length) (hv : V k = .slice (some ⟨g, 0, none⟩) (C k).length c) (y : S62) :
    LbV wB g8 g9 nm N A2 n2 c2 Ac cc V B (updC C k ((C k).set i y)) u ((((((W.setCell ⟨g, i * 6, none⟩ (.int .u8 y.f0)).setCell ⟨g, i * 6 + 1, none⟩ (.int .i64 y.f1)).setCell ⟨g, i * 6 + 2, none⟩ (.int .i64 y.f2)).setCell ⟨g, i * 6 + 3, none⟩ (.int .i64 y.f3)).setCell ⟨g, i * 6 + 4, none⟩ (.int .i64 y.f4)).setCell ⟨g, i * 6 + 5, none⟩ (.string y.f5)) := by
  have hgk : (V k).ownBlock = some g := by rw [hv]; rfl
  obtain ⟨cs, hcs⟩ := row_cells (h.blk.row k hk) g hgk
  have hb : wB.heap.size ≤ g := (h.blk.row k hk).lt g hgk |>.1
  have hfar : ∀ b, b ≠ g → ((((((W.setCell ⟨g, i * 6, none⟩ (.int .u8 y.f0)).setCell ⟨g, i * 6 + 1, none⟩ (.int .i64 y.f1)).setCell ⟨g, i * 6 + 2, none⟩ (.int .i64 y.f2)).setCell ⟨g, i * 6 + 3, none⟩ (.int .i64 y.f3)).setCell ⟨g, i * 6 + 4, none⟩ (.int .i64 y.f4)).setCell ⟨g, i * 6 + 5, none⟩ (.string y.f5)).heap[b]? = W.heap[b]? := fun b hb => by
    rw [Below.heap_setCell _ ⟨g, i * 6 + 5, none⟩ _ b hb, Below.heap_setCell _ ⟨g, i * 6 + 4, none⟩ _ b hb, Below.heap_setCell _ ⟨g, i * 6 + 3, none⟩ _ b hb, Below.heap_setCell _ ⟨g, i * 6 + 2, none⟩ _ b hb, Below.heap_setCell _ ⟨g, i * 6 + 1, none⟩ _ b hb, Below.heap_setCell _ ⟨g, i * 6, none⟩ _ b hb]
  have hne : ∀ {b : Nat} {cs' : Array Value} {t : TypeId}, W.heap[b]? = some (.cells cs' t (0, 0)) → 62 ≠ t → b ≠ g := fun hb' ht e => by
    rw [e, hcs] at hb'
    injection hb' with hb'
    injection hb' with _ hb'
    exact ht hb'
  exact ⟨(((((h.bel.setCell (p := ⟨g, i * 6, none⟩) hb _).setCell (p := ⟨g, i * 6 + 1, none⟩) hb _).setCell (p := ⟨g, i * 6 + 2, none⟩) hb _).setCell (p := ⟨g, i * 6 + 3, none⟩) hb _).setCell (p := ⟨g, i * 6 + 4, none⟩) hb _).setCell (p := ⟨g, i * 6 + 5, none⟩) hb _,
    (hfar _ (hne h.b8 (by decide))).trans h.b8, (hfar _ (hne h.b9 (by decide))).trans h.b9, h.l9, h.blk.store hk hi hv y⟩
set_option maxHeartbeats 8000000 in
set_option maxRecDepth 100000 in
theorem LB_no (nm : ByteArray) (R : Int) (A2 : Option Addr) (c2 : Nat) (ar : List S107) (A3 : Option Addr) (c3 : Nat) (B : List S43) (x : Int) (w : World) (ho : false = formB R B) (hC2 : k107.C w A2 ar.length ar) (hc2 : ar.length ≤ c2) (hC3 : k43.C w A3 B.length B) (hc3 : B.length ≤ c3) :
    Calls Try.prog 6 #[.agg #[.string nm, .int .i64 R, .slice A2 ar.length c2, .slice A3 B.length c3], .int .u8 x] w fun e w' => e = .returned (.bool true) ∧ Below w.heap.size w w' := by
  have HO := Lib.hid ho
  have HC2 := Lib.hid hC2
  have HC3 := Lib.hid hC3
  clear hC2 hC3 ho
  go_enter Try.func6, Try.ntmps6
  go_wp2_with (first
    | ((with_reducible refine gate_dst (N := 2) rfl ?_); refine box_event ?hg (N := 2) ?hd (cs := #[.string nm, .int .i64 R, .slice A2 ar.length c2, .slice A3 B.length c3]) (t := 25) ?hr ?_; (case hd => rfl); (case hg => rfl); (case hr => first | (go_simp; done) | (go_simp; rfl)); intro g1 hg1 w1 hbox1 hbw1; have HBW1 := Lib.hid hbw1; have BK1 := Lib.hid hbox1; clear hbox1 hbw1 hg1)
    | (go_at_call 8; have hx := HB3.out; clear hx; refine (awake_calls _).mono ?_; rintro e w4 ⟨rfl, hb4⟩; have HB4 := Lib.hid hb4; clear hb4)
    | (go_at_call 8; refine (awake_calls _).mono ?_; rintro e w2 ⟨rfl, hb2⟩; have HB2 := Lib.hid hb2; have BK2 := Lib.hid (heap_below BK1.out hb2); clear hb2; obtain ⟨z0, z1, z2, z3⟩ := cells4 BK2.out)
    | (go_at_call 23; refine (form_calls nm R A2 c2 ar A3 c3 B _ (Kd.C_below (Kd.C_below HC2.out HBW1.out) HB2.out) hc2 (Kd.C_below (Kd.C_below HC3.out HBW1.out) HB2.out) hc3).mono ?_; rw [← HO.out]; rintro e w3 ⟨rfl, hb3⟩; have HB3 := Lib.hid hb3; clear hb3 z0 z1 z2 z3)
    | fail)
  go_ret
  exact ⟨rfl, HBW1.out.trans ((HB2.out.trans ((HB3.out.trans (HB4.out.mono HB3.out.size)).mono HB2.out.size)).mono HBW1.out.size)⟩
set_option maxHeartbeats 8000000 in
set_option maxRecDepth 100000 in
theorem LB_zero (nm : ByteArray) (R : Int) (A2 : Option Addr) (c2 : Nat) (ar : List S107) (A3 : Option Addr) (c3 : Nat) (B : List S43) (x : Int) (w : World) (ho : true = formB R B) (hR0 : R = 0) (hC2 : k107.C w A2 ar.length ar) (hc2 : ar.length ≤ c2) (hC3 : k43.C w A3 B.length B) (hc3 : B.length ≤ c3) :
    Calls Try.prog 6 #[.agg #[.string nm, .int .i64 R, .slice A2 ar.length c2, .slice A3 B.length c3], .int .u8 x] w fun e w' => e = .returned (.bool true) ∧ Below w.heap.size w w' := by
  have HO := Lib.hid ho
  have HC2 := Lib.hid hC2
  have HC3 := Lib.hid hC3
  clear hC2 hC3 ho
  subst hR0
  go_enter Try.func6, Try.ntmps6
  go_wp2_with (first
    | ((with_reducible refine gate_dst (N := 2) rfl ?_); refine box_event ?hg (N := 2) ?hd (cs := #[.string nm, .int .i64 0, .slice A2 ar.length c2, .slice A3 B.length c3]) (t := 25) ?hr ?_; (case hd => rfl); (case hg => rfl); (case hr => first | (go_simp; done) | (go_simp; rfl)); intro g1 hg1 w1 hbox1 hbw1; have HBW1 := Lib.hid hbw1; have BK1 := Lib.hid hbox1; clear hbox1 hbw1 hg1)
    | (go_at_call 8; have hx := HB3.out; clear hx; refine (awake_calls _).mono ?_; rintro e w4 ⟨rfl, hb4⟩; have HB4 := Lib.hid hb4; clear hb4)
    | (go_at_call 8; refine (awake_calls _).mono ?_; rintro e w2 ⟨rfl, hb2⟩; have HB2 := Lib.hid hb2; have BK2 := Lib.hid (heap_below BK1.out hb2); clear hb2; obtain ⟨z0, z1, z2, z3⟩ := cells4 BK2.out)
    | (go_at_call 23; refine (form_calls nm 0 A2 c2 ar A3 c3 B _ (Kd.C_below (Kd.C_below HC2.out HBW1.out) HB2.out) hc2 (Kd.C_below (Kd.C_below HC3.out HBW1.out) HB2.out) hc3).mono ?_; rw [← HO.out]; rintro e w3 ⟨rfl, hb3⟩; have HB3 := Lib.hid hb3; clear z0 z1 z2 z3; obtain ⟨z0, z1, z2, z3⟩ := cells4 (heap_below BK2.out hb3); clear hb3)
    | fail)
  go_ret
  exact ⟨rfl, HBW1.out.trans ((HB2.out.trans ((HB3.out.trans (HB4.out.mono HB3.out.size)).mono HB2.out.size)).mono HBW1.out.size)⟩
set_option maxHeartbeats 8000000 in
set_option maxRecDepth 100000 in
theorem LB_yes (nm : ByteArray) (R : Int) (A2 : Option Addr) (c2 : Nat) (ar : List S107) (A3 : Option Addr) (c3 : Nat) (B : List S43) (x : Int) (hx0 : 0 ≤ x) (hx1 : x ≤ 255) (w : World) (hR0 : R ≠ 0) (ho : true = formB R B) (hC2 : k107.C w A2 ar.length ar) (hc2 : ar.length ≤ c2) (hC3 : k43.C w A3 B.length B) (hc3 : B.length ≤ c3) :
    Calls Try.prog 6 #[.agg #[.string nm, .int .i64 R, .slice A2 ar.length c2, .slice A3 B.length c3], .int .u8 x] w fun e w' => e = .returned (.bool true) ∧ Below w.heap.size w w' := by
  have hsm : smallB R B = true ∧ wfB R B = true := by unfold formB at ho; rw [← Bool.and_eq_true]; exact ho.symm
  obtain ⟨hn, hR, hco⟩ := small_of hsm.1
  have hn1 : B.length ≤ 1000 := by omega
  have hn3 : B.length ≤ 30 := by omega
  have HCO := Lib.hid (show ∀ x ∈ B, x.f0.length ≤ 1000 from fun x hx => Nat.le_trans (hco x hx) (by decide))
  have HQ := Lib.hid hsm.2
  obtain ⟨N, rfl, hN, hF⟩ := (wfB_iff R B).1 hsm.2
  have hN3 : N ≤ 30 := by omega
  have hR3 : (N : Int) ≤ 30 := by omega
  have HF := Lib.hid hF
  have HO := Lib.hid ho
  have HC2 := Lib.hid hC2
  have HC3 := Lib.hid hC3
  clear hC2 hC3 ho hsm hco hF hN hR
  have HOG := Lib.hid (fun (G : List S43) (W : World) (Ac : Option Addr) (cc : Nat) (hGl : G.length = B.length) (hG : OkF N G) (hGc : ∀ x ∈ G, x.f0.length ≤ 1000) (h : k43.C W Ac B.length G) (hcc : B.length ≤ cc) => show Calls Try.prog 10 #[.agg #[.string nm, .int .i64 N, .slice A2 ar.length c2, .slice Ac B.length cc]] W (fun e w' => ∃ (Ai : Option Addr) (ci : Nat) (Ao : Option Addr) (co : Nat) (I O : Nat → Nat), e = .returned (.tuple #[.agg #[.slice Ai B.length ci, .slice Ao B.length co], .int .i64 0]) ∧ SI N G I O [] ∧ (Kd.slice 3 (Kd.int .i64)).C w' Ao B.length (lstN O B.length) ∧ B.length ≤ co ∧ Below W.heap.size W w') from by
    rw [← hGl] at h hcc ⊢
    refine (Of_calls nm N hR3 A2 c2 ar.length Ac cc G W h hcc (by omega) hGc).mono ?_
    rintro e w' ⟨hof, hb⟩
    rcases hof with ⟨hff, _⟩ | ⟨N', vi, vo, I, O, hN', _, he, hsi, hRi, hRo⟩
    · rw [(wfB_iff N G).2 ⟨N, rfl, by omega, hG⟩] at hff; cases hff
    · obtain rfl : N = N' := by omega
      obtain ⟨Ai, ci, rfl, _, _⟩ := hRi.C
      obtain ⟨Ao, co, rfl, hlo, hCo⟩ := hRo.C
      rw [lstN_length] at hlo hCo
      rw [lstN_length, lstN_length] at he
      exact ⟨Ai, ci, Ao, co, I, O, he, hsi, hCo, hlo, hb⟩)
  obtain ⟨rn, hrn⟩ : ∃ rn : Nat, x % (N : Int) = (rn : Int) := ⟨(x % (N : Int)).toNat, by have := Int.emod_nonneg x (show (N : Int) ≠ 0 by omega); omega⟩
  have HRN := Lib.hid hrn
  have hN0 : (0 : Int) < N := by omega
  have hN1 : (1 : Int) ≤ N := by omega
  have hN0b : ((N : Int) == 0) = false := by simp; omega
  clear hrn hR0
  go_enter Try.func6, Try.ntmps6
  go_upto_region 4 with (first
    | ((with_reducible refine gate_dst (N := 2) rfl ?_); refine box_event ?hg (N := 2) ?hd (cs := #[.string nm, .int .i64 N, .slice A2 ar.length c2, .slice A3 B.length c3]) (t := 25) ?hr ?_; (case hd => rfl); (case hg => rfl); (case hr => first | (go_simp; done) | (go_simp; rfl)); intro g1 hg1 w1 hbox1 hbw1; have HBW1 := Lib.hid hbw1; have BK1 := Lib.hid hbox1; clear hbox1 hbw1 hg1)
    | ((with_reducible refine gate_dst (N := 5) rfl ?_); refine box_event ?hg (N := 5) ?hd (cs := #[.int .i64 0]) (t := 3) ?hr ?_; (case hd => rfl); (case hg => rfl); (case hr => first | (go_simp; done) | (go_simp; rfl)); intro g5 hg5 w5 hbox5 hbw5; have HBW5 := Lib.hid hbw5; have BK5 := Lib.hid hbox5; have HG5 := Lib.hid hg5; have f0 := blk_frozen hbox5 0; have y0 := cell1 hbox5; clear hbox5 hbw5 hg5)
    | (go_at_call 8; refine (awake_calls _).mono ?_; rintro e w2 ⟨rfl, hb2⟩; have HB2 := Lib.hid (HBW1.out.trans (hb2.mono HBW1.out.size)); have BK2 := Lib.hid (heap_below BK1.out hb2); clear hb2; obtain ⟨z0, z1, z2, z3⟩ := cells4 BK2.out)
    | (go_at_call 23; refine (form_calls nm N A2 c2 ar A3 c3 B _ (Kd.C_below HC2.out HB2.out) hc2 (Kd.C_below HC3.out HB2.out) hc3).mono ?_; rw [← HO.out]; rintro e w3 ⟨rfl, hb3⟩; have HB3 := Lib.hid (HB2.out.trans (hb3.mono HB2.out.size)); have BK3' := Lib.hid (heap_below BK2.out hb3); clear hb3 z0 z1 z2 z3; obtain ⟨z0, z1, z2, z3⟩ := cells4 BK3'.out)
    | fail)
  have hl5 : w3.heap.size ≤ g5 := by rw [HG5.out]; exact Nat.le_refl _
  obtain ⟨w6, hw6⟩ : ∃ w6, w6 = w5.setCell ⟨g5, 0, none⟩ (.int .i64 (x % (N : Int))) := ⟨_, rfl⟩
  rw [← hw6]
  have hb36 : Below w3.heap.size w3 w6 := by rw [hw6]; exact HBW5.out.setCell (p := ⟨g5, 0, none⟩) hl5 _
  have hk5 : w6.heap[g5]? = some (.cells #[.int .i64 rn] 3 (0, 0)) := by rw [hw6, HRN.out]; exact blk_put BK5.out 0 _ rfl
  have hb06 := HB3.out.trans (hb36.mono HB3.out.size)
  have HK5 := Lib.hid hk5
  have HK1 := Lib.hid (heap_below BK3'.out hb36)
  have HB6 := Lib.hid hb06
  have HC36 := Lib.hid (Kd.C_below HC3.out hb06)
  clear hl5 hw6 hb36 hk5 hb06 f0 y0 z0 z1 z2 z3 BK5 HBW5 HG5 BK3' BK2 BK1 HB3 HB2 HBW1
  obtain ⟨z0, z1, z2, z3⟩ := cells4 HK1.out
  go_upto_region 5 with (first
    | ((with_reducible refine gate_dst (N := 6) rfl ?_); refine box_event ?hg (N := 6) ?hd (cs := #[.slice none 0 0, .slice none 0 0]) (t := 30) ?hr ?_; (case hd => rfl); (case hg => rfl); (case hr => first | (go_simp; done) | (go_simp; rfl)); intro g6 hg6 w8 hbox6 hbw6; have HBW6 := Lib.hid hbw6; have BK6 := Lib.hid hbox6; have HG6 := Lib.hid hg6; have f0 := blk_frozen hbox6 0; have f1 := blk_frozen hbox6 1; obtain ⟨y0, y1⟩ := cells2 hbox6; clear hbox6 hbw6 hg6)
    | (go_at_call 10; refine (HOG.out B w6 A3 c3 rfl HF.out HCO.out HC36.out hc3).mono ?_; rintro e w7 ⟨Ai, ci, Ao, co, I, O, rfl, hsi, hCo, hlo, hb7⟩; have HSI := Lib.hid hsi; have HCOo := Lib.hid hCo; have HLO := Lib.hid hlo; have HB7 := Lib.hid hb7; have HK17 := Lib.hid (heap_below HK1.out hb7); clear hsi hCo hlo hb7 z0 z1 z2 z3; obtain ⟨z0, z1, z2, z3⟩ := cells4 HK17.out)
    | fail)
  have hl6 : w7.heap.size ≤ g6 := by rw [HG6.out]; exact Nat.le_refl _
  obtain ⟨w9, hw9⟩ : ∃ w9, w9 = ((w8.setCell ⟨g6, 0, none⟩ (.slice Ai B.length ci)).setCell ⟨g6, 1, none⟩ (.slice Ao B.length co)) := ⟨_, rfl⟩
  rw [← hw9]
  have hb79 : Below w7.heap.size w7 w9 := by rw [hw9]; exact (HBW6.out.setCell (p := ⟨g6, 0, none⟩) hl6 _).setCell (p := ⟨g6, 1, none⟩) hl6 _
  have hk6 : w9.heap[g6]? = some (.cells #[.slice Ai B.length ci, .slice Ao B.length co] 30 (0, 0)) := by rw [hw9]; exact blk_put (blk_put BK6.out 0 _ rfl) 1 _ rfl
  have hb69 := HB7.out.trans (hb79.mono HB7.out.size)
  have HK6 := Lib.hid hk6
  have HK19 := Lib.hid (heap_below HK17.out hb79)
  have HK59 := Lib.hid (heap_below HK5.out hb69)
  have HCO9 := Lib.hid (Kd.C_below HCOo.out hb79)
  have HC39 := Lib.hid (Kd.C_below HC36.out hb69)
  have HB9 := Lib.hid (HB6.out.trans (hb69.mono HB6.out.size))
  clear hl6 hw9 hb79 hk6 hb69 f0 f1 y0 y1 z0 z1 z2 z3 BK6 HBW6 HG6 HB7 HK17 HK1 HK5 HCOo HC36 HB6
  obtain ⟨z0, z1, z2, z3⟩ := cells4 HK19.out
  go_upto_region 6 with (first
    | ((with_reducible refine gate_dst (N := 8) rfl ?_); refine box_event ?hg (N := 8) ?hd (cs := #[.string ⟨#[]⟩, .int .i64 0, .slice none 0 0, .slice none 0 0]) (t := 25) ?hr ?_; (case hd => rfl); (case hg => rfl); (case hr => first | (go_simp; done) | (go_simp; rfl)); intro g8 hg8 w11 hbox8 hbw8; have HBW8 := Lib.hid hbw8; have BK8 := Lib.hid hbox8; have HG8 := Lib.hid hg8; have f0 := blk_frozen hbox8 0; have f1 := blk_frozen hbox8 1; have f2 := blk_frozen hbox8 2; have f3 := blk_frozen hbox8 3; obtain ⟨y0, y1, y2, y3⟩ := cells4 hbox8; clear hbox8 hbw8 hg8)
    | (go_at_call 28; refine (copied_calls nm N A2 ar.length c2 A3 c3 B _ HC39.out hn1 HCO.out).mono ?_; rintro e w10 ⟨vc, V, rfl, hblk, hb10⟩; obtain ⟨Ac, cc, rfl, hcc, _⟩ := hblk.C; have HBLK := Lib.hid hblk.toC; have HCC := Lib.hid hcc; have HB10 := Lib.hid hb10; clear hb10 hblk hcc z0 z1 z2 z3)
    | fail)
  have hl8 : w10.heap.size ≤ g8 := by rw [HG8.out]; exact Nat.le_refl _
  obtain ⟨w12, hw12⟩ : ∃ w12, w12 = ((((w11.setCell ⟨g8, 0, none⟩ (.string nm)).setCell ⟨g8, 1, none⟩ (.int .i64 N)).setCell ⟨g8, 2, none⟩ (.slice A2 ar.length c2)).setCell ⟨g8, 3, none⟩ (.slice Ac B.length cc)) := ⟨_, rfl⟩
  rw [← hw12]
  have hb12 : Below w10.heap.size w10 w12 := by rw [hw12]; exact (((HBW8.out.setCell (p := ⟨g8, 0, none⟩) hl8 _).setCell (p := ⟨g8, 1, none⟩) hl8 _).setCell (p := ⟨g8, 2, none⟩) hl8 _).setCell (p := ⟨g8, 3, none⟩) hl8 _
  have hk8 : w12.heap[g8]? = some (.cells #[.string nm, .int .i64 N, .slice A2 ar.length c2, .slice Ac B.length cc] 25 (0, 0)) := by rw [hw12]; exact blk_four BK8.out _ _ _ _
  have HK8 := Lib.hid hk8
  have HBL12 := Lib.hid (HBLK.out.below hb12)
  have HB12 := Lib.hid (HB10.out.trans (hb12.mono HB10.out.size))
  clear hl8 hw12 hb12 hk8 f0 f1 f2 f3 y0 y1 y2 y3 BK8 HBW8 HG8 HBLK HB10
  go_upto_region 7 with (first
    | ((with_reducible refine gate_dst (N := 9) rfl ?_); refine box_event ?hg (N := 9) ?hd (cs := #[.bool false]) (t := 4) ?hr ?_; (case hd => rfl); (case hg => rfl); (case hr => first | (go_simp; done) | (go_simp; rfl)); intro g9 hg9 w13 hbox9 hbw9; have HBW9 := Lib.hid hbw9; have BK9 := Lib.hid hbox9; have HG9 := Lib.hid hg9; have f0 := blk_frozen hbox9 0; have y0 := cell1 hbox9; clear hbox9 hbw9 hg9)
    | fail)
  have hl9 : w12.heap.size ≤ g9 := by rw [HG9.out]; exact Nat.le_refl _
  have hV13 : LbV w9 g8 g9 nm N A2 ar.length c2 Ac cc V B (Ck rn B 0 0) false (w13.setCell ⟨g9, 0, none⟩ (.bool false)) := by
    refine LbV.use (u := false) ⟨HB12.out.trans (HBW9.out.mono HB12.out.size), heap_below HK8.out HBW9.out, BK9.out, Nat.le_trans HB12.out.size hl9, ?_⟩ false
    exact (HBL12.out.below HBW9.out).congr fun j _ => Ck_zero rn B j
  obtain ⟨w14, hw14⟩ : ∃ w14, w14 = w13.setCell ⟨g9, 0, none⟩ (.bool false) := ⟨_, rfl⟩
  rw [← hw14] at hV13 ⊢
  have HV14 := Lib.hid hV13
  clear hl9 hw14 hV13 f0 y0 BK9 HBW9 HG9 HK8 HBL12 HB12
  obtain ⟨_, _, _, y3⟩ := cells4 HV14.out.b8
  go_wp2
  go_loopw [45] (fun v wr => ∃ k : Nat, k ≤ B.length ∧ v = .int .i64 k ∧ LbV w9 g8 g9 nm N A2 ar.length c2 Ac cc V B (Ck rn B k 0) (usedTo rn B k) wr) (fun v _ => B.length - (intOf v).toNat)
  case atStart => exact ⟨0, Nat.zero_le _, rfl, HV14.out⟩
  case round =>
    obtain ⟨k, hk, rfl, hV⟩ := hrel
    obtain ⟨wo, rfl⟩ : ∃ wo, wo = wr := ⟨_, rfl⟩
    have HV := Lib.hid hV
    clear y3 hV
    by_cases hlt : k < B.length
    · obtain ⟨ga, hA, hga, q0, q1, q2⟩ := HV.out.blk.cells hlt
      subst hA
      obtain ⟨_, _, _, y3⟩ := cells4 HV.out.b8
      have yu := cell1 HV.out.b9
      have fu := blk_frozen HV.out.b9 0
      have yr := cell_up (cell1 HK59.out) HV.out.bel
      obtain ⟨u, hu⟩ : ∃ u, u = usedTo rn B k := ⟨_, rfl⟩
      obtain ⟨y, hy⟩ : ∃ y, y = B.getD k z43 := ⟨_, rfl⟩
      rw [← hy] at q1 q2
      rw [← hu] at yu
      have HU := Lib.hid hu
      have HY := Lib.hid hy
      clear hu hy
      have hcase : usedAt rn B k 0 = (u || (y.f1 == 2 && (y.f2 == (rn : Int)))) := by rw [usedAt_zero, HU.out, HY.out]; rfl
      have HCASE := Lib.hid hcase
      have HUSE := Lib.hid (fun (b : Bool) => ((HV.out.use b).below (Below.refl (wo.setCell ⟨g9, 0, none⟩ (.bool b)).heap.size (wo.setCell ⟨g9, 0, none⟩ (.bool b))).drew))
      clear hcase
      go_upto_region 10 with fail
      go_cut [10] from 48 to 67 (fun v10 wx => v10 = .int .i64 k ∧ LbV w9 g8 g9 nm N A2 ar.length c2 (some ⟨ga, 0, none⟩) cc V B (Ck rn B k 0) (usedAt rn B k 0) wx)
      case first =>
        cases u with
        | true =>
          go_region
          all_goals
            go_wp2_with fail
            go_meet
            case rel => exact ⟨rfl, by rw [HCASE.out]; exact HUSE.out true⟩
        | false =>
          by_cases hk2 : y.f1 = 2
          · have hk2b : (y.f1 == 2) = true := by simpa using hk2
            have HK2 := Lib.hid hk2b
            rw [hk2] at q1
            clear hk2 hk2b
            by_cases hx2 : y.f2 = (rn : Int)
            · have hx2b : (y.f2 == (rn : Int)) = true := by simpa using hx2
              have HX2 := Lib.hid hx2b
              rw [hx2] at q2
              clear hx2 hx2b
              go_region
              all_goals
                go_wp2_with fail
                go_meet
                case rel => exact ⟨rfl, by rw [HCASE.out, HK2.out, HX2.out]; exact HUSE.out true⟩
            · have hx2b : (y.f2 == (rn : Int)) = false := by simpa using hx2
              have HX2 := Lib.hid hx2b
              clear hx2
              go_region
              all_goals
                go_wp2_with fail
                go_meet
                case rel => exact ⟨rfl, by rw [HCASE.out, HK2.out, HX2.out]; exact HUSE.out false⟩
          · have hk2b : (y.f1 == 2) = false := by simpa using hk2
            have HK2 := Lib.hid hk2b
            clear hk2
            go_region
            all_goals
              go_wp2_with fail
              go_meet
              case rel => exact ⟨rfl, by rw [HCASE.out, HK2.out]; exact HUSE.out false⟩
      case rest =>
        obtain ⟨rfl, hVc⟩ := hcut
        obtain ⟨wz, rfl⟩ : ∃ wz, wz = wc := ⟨_, rfl⟩
        have HVZ := Lib.hid hVc
        clear hVc HCASE HUSE HU q0 q1 q2 y3 yu fu yr HV
        obtain ⟨ga', hA', hga', q0, q1, q2⟩ := HVZ.out.blk.cells hlt
        obtain rfl : ga = ga' := by injection hA' with e; injection e
        obtain ⟨A0, c0, hv, hl0, _⟩ := HVZ.out.blk.code hlt
        rw [Ck_len, ← HY.out] at hv hl0
        rw [hv] at q0
        have HVK := Lib.hid hv
        have hcl : y.f0.length ≤ 1000 := by rw [HY.out]; exact HCO.out _ (memB hlt)
        obtain ⟨_, _, _, y3⟩ := cells4 HVZ.out.b8
        clear hA' hga' hv q1 q2
        go_wp2
        go_loopw [75] (fun v wq => ∃ i : Nat, i ≤ y.f0.length ∧ v = .int .i64 i ∧ LbV w9 g8 g9 nm N A2 ar.length c2 (some ⟨ga, 0, none⟩) cc V B (Ck rn B k i) (usedAt rn B k i) wq) (fun v _ => y.f0.length - (intOf v).toNat)
        case atStart => exact ⟨0, Nat.zero_le _, rfl, HVZ.out⟩
        case round =>
          obtain ⟨i, hi, rfl, hVq⟩ := hrel
          obtain ⟨wq, rfl⟩ : ∃ wq, wq = wr := ⟨_, rfl⟩
          have HVQ := Lib.hid hVq
          clear q0 y3 hVq
          by_cases hil : i < y.f0.length
          · have hil' : i < (B.getD k z43).f0.length := by rw [← HY.out]; exact hil
            obtain ⟨h, c, hv, hbh, hsix, hfz⟩ := HVQ.out.blk.ins (i := i) hlt (by rw [Ck_len]; exact hil')
            rw [Ck_at hil', ← HY.out] at hsix
            rw [Ck_len, ← HY.out, HVK.out] at hv
            obtain ⟨rfl, rfl⟩ : A0 = some ⟨h, 0, none⟩ ∧ c0 = c := by injection hv with a b d; exact ⟨a, d⟩
            obtain ⟨n, hn'⟩ : ∃ n, n = y.f0.getD i z62 := ⟨_, rfl⟩
            rw [← hn'] at hsix
            obtain ⟨i0, i1, i2, i3, i4, i5⟩ := hsix
            have HNN := Lib.hid hn'
            have HFZ := Lib.hid hfz
            clear hv hn' hfz
            go_upto_region 14 with (first
              | ((with_reducible refine gate_dst (N := 12) rfl ?_); refine box_event ?hg (N := 12) ?hd (cs := #[.int .u8 0, .int .i64 0, .int .i64 0, .int .i64 0, .int .i64 0, .string ⟨#[]⟩]) (t := 62) ?hr ?_; (case hd => rfl); (case hg => rfl); (case hr => first | (go_simp; done) | (go_simp; rfl)); intro g12 hg12 w15 hbox12 hbw12; have HBW12 := Lib.hid hbw12; have BK12 := Lib.hid hbox12; have HG12 := Lib.hid hg12; have f0 := blk_frozen hbox12 0; have f1 := blk_frozen hbox12 1; have f2 := blk_frozen hbox12 2; have f3 := blk_frozen hbox12 3; have f4 := blk_frozen hbox12 4; have f5 := blk_frozen hbox12 5; obtain ⟨y0, y1, y2, y3, y4, y5⟩ := cells6 hbox12; clear hbox12 hbw12 hg12)
              | fail)
            have hl12 : wq.heap.size ≤ g12 := by rw [HG12.out]; exact Nat.le_refl _
            obtain ⟨w16, hw16⟩ : ∃ w16, w16 = ((((((w15.setCell ⟨g12, 0, none⟩ (.int .u8 n.f0)).setCell ⟨g12, 1, none⟩ (.int .i64 n.f1)).setCell ⟨g12, 2, none⟩ (.int .i64 n.f2)).setCell ⟨g12, 3, none⟩ (.int .i64 n.f3)).setCell ⟨g12, 4, none⟩ (.int .i64 n.f4)).setCell ⟨g12, 5, none⟩ (.string n.f5)) := ⟨_, rfl⟩
            rw [← hw16]
            have hb16 : Below wq.heap.size wq w16 := by
              rw [hw16]
              exact (((((HBW12.out.setCell (p := ⟨g12, 0, none⟩) hl12 _).setCell (p := ⟨g12, 1, none⟩) hl12 _).setCell (p := ⟨g12, 2, none⟩) hl12 _).setCell (p := ⟨g12, 3, none⟩) hl12 _).setCell (p := ⟨g12, 4, none⟩) hl12 _).setCell (p := ⟨g12, 5, none⟩) hl12 _
            have hk12 : w16.heap[g12]? = some (.cells #[.int .u8 n.f0, .int .i64 n.f1, .int .i64 n.f2, .int .i64 n.f3, .int .i64 n.f4, .string n.f5] 62 (0, 0)) := by rw [hw16]; exact blk_six BK12.out _ _ _ _ _ _
            have HV16 := Lib.hid (HVQ.out.below hb16)
            have HK12 := Lib.hid hk12
            clear hl12 hw16 hb16 hk12 f0 f1 f2 f3 f4 f5 y0 y1 y2 y3 y4 y5 i0 i1 i2 i3 i4 i5 BK12 HBW12 HG12
            obtain ⟨uq, huq⟩ : ∃ uq, uq = usedAt rn B k i := ⟨_, rfl⟩
            obtain ⟨ub, hub⟩ : ∃ ub, ub = (usesL n).contains (rn : Int) := ⟨_, rfl⟩
            have hun : usedAt rn B k (i + 1) = (uq || ub) := by rw [usedAt_next hil', ← HY.out, ← HNN.out, huq, hub]; rfl
            have HUB := Lib.hid hub
            have HUN := Lib.hid hun
            have yu := cell1 HV16.out.b9
            rw [← huq] at yu
            have fu := blk_frozen HV16.out.b9 0
            have HUQ := Lib.hid huq
            clear huq hun hub
            go_cut [10] from 80 to 86 (fun v10 wx => v10 = .int .i64 k ∧ LbV w9 g8 g9 nm N A2 ar.length c2 (some ⟨ga, 0, none⟩) cc V B (Ck rn B k i) (usedAt rn B k (i + 1)) wx ∧ wx.heap[g12]? = some (.cells #[.int .u8 n.f0, .int .i64 n.f1, .int .i64 n.f2, .int .i64 n.f3, .int .i64 n.f4, .string n.f5] 62 (0, 0)))
            case first =>
              have hne : g12 ≠ g9 := fun e => by
                have h1 := HV16.out.b9
                have h2 := HK12.out
                rw [e, h1] at h2
                injection h2 with h2
                injection h2 with _ h2
                exact absurd h2 (by decide)
              have HNE := Lib.hid hne
              clear hne
              cases uq with
              | true =>
                go_region
                all_goals
                  go_wp2_with fail
                  go_meet
                  case rel => exact ⟨rfl, by rw [HUN.out]; exact (HV16.out.use true).below (Below.refl _ _).drew, (Below.heap_setCell w16 ⟨g9, 0, none⟩ (.bool true) g12 HNE.out).trans HK12.out⟩
              | false =>
                have hU := Uses_f n
                have HU := Lib.hid hU
                have hul : (usesL n).length ≤ 1000 := by have : (usesL n).length ≤ 2 := by unfold usesL; split <;> split <;> simp
                                                         omega
                have yr := cell_up (cell1 HK59.out) HV16.out.bel
                obtain ⟨n0, n1, n2, n3, n4, n5⟩ := cells6 HK12.out
                clear hU
                go_region_with (first
                  | (go_at_call 27; refine (ir_Uses.calls _ _ _ _ _ _ _ _ HU.out).mono ?_; rintro e w17 ⟨v17, rfl, hR17, hb17⟩; obtain ⟨A17, c17, rfl, hl17, hC17⟩ := Kd.R_reads hR17; have HC17 := Lib.hid hC17; have HB17 := Lib.hid ((Below.refl w16.heap.size w16).drew.trans hb17); have yr17 := cell_up yr HB17.out; have yu17 := cell_up yu HB17.out; clear hb17 hC17 hR17)
                  | (go_at_call 29; refine (lsCon (usesL n) rn hul HC17.out hl17).mono ?_; rw [← HUB.out]; rintro e w18 ⟨rfl, hb18⟩; have HB18 := Lib.hid (HB17.out.trans (hb18.mono HB17.out.size)); have yu18 := cell_up yu HB18.out; have fu18 := blk_frozen (heap_below HV16.out.b9 HB18.out) 0; clear hb18)
                  | fail)
                all_goals
                  go_wp2_with fail
                  go_meet
                  case rel => exact ⟨rfl, by rw [HUN.out, Bool.false_or]; first | exact (HV16.out.below HB18.out).use ub | exact ((HV16.out.below HB18.out).use ub).below (Below.refl _ _).drew, (Below.heap_setCell w18 ⟨g9, 0, none⟩ _ g12 HNE.out).trans (heap_below HK12.out HB18.out)⟩
            case rest =>
              obtain ⟨rfl, hVx, hkx⟩ := hcut
              obtain ⟨wx, rfl⟩ : ∃ wx, wx = wc := ⟨_, rfl⟩
              have HVX := Lib.hid hVx
              have HKX := Lib.hid hkx
              obtain ⟨n0, n1, n2, n3, n4, n5⟩ := cells6 hkx
              clear hVx hkx HV16 HK12 HUQ HUN HUB yu fu HVQ
              have HU := Lib.hid (Uses_f n)
              have hdf := Defines_f n
              cases hsh : (shp n.f0).1 with
              | false =>
                rw [hsh] at hdf
                have HP := Lib.hid (show pureB (rn : Int) n = false by unfold pureB; rw [hsh]; rfl)
                have HD := Lib.hid (show ir_Defines.f n.f0 n.f1 n.f2 n.f3 n.f4 n.f5 = some (0, false) from hdf)
                clear hdf hsh
                go_wp2_with (first
                  | (go_at_call 26; refine (ir_Defines.calls _ _ _ _ _ _ _ _ _ HD.out).mono ?_; rintro e w19 ⟨rfl, hb19⟩; have HB19 := Lib.hid hb19; obtain ⟨n0, n1, n2, n3, n4, n5⟩ := cells6 (heap_below HKX.out hb19); have yr := cell_up (cell1 HK59.out) (HVX.out.bel.trans (hb19.mono HVX.out.bel.size)); clear hb19)
                  | fail)
                all_goals
                  have HBZ := HB19
                  go_roundw
                  case rel => exact ⟨i + 1, by omega, by go_num, (HVX.out.below HBZ.out).congr fun j => Ck_same hil' (by rw [← HY.out, ← HNN.out]; exact HP.out) j⟩
                  case measure => simp [intOf]; omega
              | true =>
                rw [hsh] at hdf
                have HD := Lib.hid (show ir_Defines.f n.f0 n.f1 n.f2 n.f3 n.f4 n.f5 = some (n.f1, true) from hdf)
                have HSH := Lib.hid hsh
                clear hdf hsh
                by_cases hd : n.f1 = (rn : Int)
                · have hdb : (n.f1 == (rn : Int)) = true := by simpa using hd
                  have HDD := Lib.hid hdb
                  have hd2 := Lib.hid hd
                  by_cases hu0 : usesL n = []
                  · have HP := Lib.hid (show pureB (rn : Int) n = true by unfold pureB; rw [HSH.out, hdb, hu0]; rfl)
                    have HU0 := Lib.hid hu0
                    have hul0 : (usesL n).length = 0 := by rw [hu0]; rfl
                    have hlb : (((usesL n).length : Int) == 0) = true := by rw [hul0]; rfl
                    have hlb2 : ((usesL n).length == 0) = true := by rw [hul0]; rfl
                    clear hu0 hd hul0
                    go_upto_region 17 with (first
                      | (go_at_call 26; refine (ir_Defines.calls _ _ _ _ _ _ _ _ _ HD.out).mono ?_; rintro e w19 ⟨rfl, hb19⟩; have HB19 := Lib.hid hb19; obtain ⟨n0, n1, n2, n3, n4, n5⟩ := cells6 (heap_below HKX.out hb19); have yr := cell_up (cell1 HK59.out) (HVX.out.bel.trans (hb19.mono HVX.out.bel.size)); clear hb19)
                      | (go_at_call 27; refine (ir_Uses.calls _ _ _ _ _ _ _ _ HU.out).mono ?_; rintro e w21 ⟨v21, rfl, hR21, hb21⟩; obtain ⟨A21, c21, rfl⟩ := Kd.R_slice hR21; have HB21 := Lib.hid (HB19.out.trans (hb21.mono HB19.out.size)); clear hb21 hR21)
                      | fail)
                    have HV21 := Lib.hid (HVX.out.below HB21.out)
                    have HINS := Lib.hid (show ontimelaw19_ins.f 13 0 0 0 0 = some (13, 0, 0, 0, 0, ⟨#[]⟩) by (show _ = _); kernel_rfl)
                    obtain ⟨_, _, _, y3⟩ := cells4 HV21.out.b8
                    obtain ⟨ga2, hA2, _, q0, _, _⟩ := HV21.out.blk.cells hlt
                    have e2 : ga2 = ga := by injection hA2 with e; injection e with e; exact e.symm
                    rw [e2, HVK.out] at q0
                    clear hA2 e2 n0 n1 n2 n3 n4 n5 yr hlb hlb2 hdb
                    refine Two.region_two 8 2 (fun w' => w'.cell? ⟨g8, 3, none⟩ = some (.slice (some ⟨ga, 0, none⟩) B.length cc) ∧ w'.cell? ⟨ga, k * 5, none⟩ = some (.slice (some ⟨h, 0, none⟩) y.f0.length c0)) rfl (by kernel_rfl) (⟨y3, q0⟩) (fun hHeld => ?_)
                    refine Two.take (v := ?_) 0 rfl (Or.inl ⟨by rfl, ?_⟩) rfl (by kernel_rfl) (by kernel_rfl) (by kernel_rfl) (by kernel_rfl) (by kernel_rfl) (fun _ _ _ h => h) (by assumption) ?_
                    rotate_left
                    · intro w' hSw
                      try dsimp only at hSw
                      go_simp
                      try with_reducible rfl
                    try simp only [Act.put, List.setIfInBounds_toArray, List.set_cons_zero, List.set_cons_succ]
                    refine Two.take (v := ?_) 1 rfl (Or.inl ⟨by rfl, ?_⟩) rfl (by kernel_rfl) (by kernel_rfl) (by kernel_rfl) (by kernel_rfl) (by kernel_rfl) (fun _ _ _ h => h) (by assumption) ?_
                    rotate_left
                    · intro w' hSw
                      try dsimp only at hSw
                      go_simp
                      try with_reducible rfl
                    try simp only [Act.put, List.setIfInBounds_toArray, List.set_cons_zero, List.set_cons_succ]
                    refine Two.take (v := ?_) 2 rfl (Or.inl ⟨by rfl, ?_⟩) rfl (by kernel_rfl) (by kernel_rfl) (by kernel_rfl) (by kernel_rfl) (by kernel_rfl) (fun _ _ _ h => h) (by assumption) ?_
                    rotate_left
                    · intro w' hSw
                      try dsimp only at hSw
                      go_simp
                      try with_reducible rfl
                    try simp only [Act.put, List.setIfInBounds_toArray, List.set_cons_zero, List.set_cons_succ]
                    refine Two.take (v := ?_) 3 rfl (Or.inl ⟨by rfl, ?_⟩) rfl (by kernel_rfl) (by kernel_rfl) (by kernel_rfl) (by kernel_rfl) (by kernel_rfl) (fun _ _ _ h => h) (by assumption) ?_
                    rotate_left
                    · intro w' hSw
                      try dsimp only at hSw
                      go_simp
                      try with_reducible rfl
                    try simp only [Act.put, List.setIfInBounds_toArray, List.set_cons_zero, List.set_cons_succ]
                    refine Two.take (v := ?_) 4 rfl (Or.inl ⟨by rfl, ?_⟩) rfl (by kernel_rfl) (by kernel_rfl) (by kernel_rfl) (by kernel_rfl) (by kernel_rfl) (fun _ _ _ h => h) (by assumption) ?_
                    rotate_left
                    · intro w' hSw
                      try dsimp only at hSw
                      go_simp
                      try with_reducible rfl
                    try simp only [Act.put, List.setIfInBounds_toArray, List.set_cons_zero, List.set_cons_succ]
                    refine Two.take (v := ?_) 5 rfl (Or.inl ⟨by rfl, ?_⟩) rfl (by kernel_rfl) (by kernel_rfl) (by kernel_rfl) (by kernel_rfl) (by kernel_rfl) (fun _ _ _ h => h) (by assumption) ?_
                    rotate_left
                    · intro w' hSw
                      try dsimp only at hSw
                      go_simp
                      try with_reducible rfl
                    try simp only [Act.put, List.setIfInBounds_toArray, List.set_cons_zero, List.set_cons_succ]
                    refine Two.take (v := ?_) 6 rfl (Or.inl ⟨by rfl, ?_⟩) rfl (by kernel_rfl) (by kernel_rfl) (by kernel_rfl) (by kernel_rfl) (by kernel_rfl) (fun _ _ _ h => h) (by assumption) ?_
                    rotate_left
                    · intro w' hSw
                      try dsimp only at hSw
                      go_simp
                      try with_reducible rfl
                    try simp only [Act.put, List.setIfInBounds_toArray, List.set_cons_zero, List.set_cons_succ]
                    refine Two.step 7 rfl (by kernel_rfl) (fun K hK => ?_)
                    go_simp
                    go_at_call 30
                    refine (ontimelaw19_ins.calls 13 0 0 0 0 _ _ _ _ _ _ _ HINS.out).mono ?_
                    rintro e w22 ⟨rfl, hb22⟩
                    have HB22 := Lib.hid ((Below.refl w21.heap.size w21).drew.trans hb22)
                    clear hb22
                    have y22 := cell_up y3 HB22.out
                    have q22 := cell_up q0 HB22.out
                    go_wp2_with fail
                    refine hK.out _ _ (⟨by assumption, by assumption⟩) (fun hHeld => ?_)
                    clear hK K
                    try simp only [Act.put, List.setIfInBounds_toArray, List.set_cons_zero, List.set_cons_succ]
                    refine Two.tail rfl rfl (by kernel_rfl) (by kernel_rfl) ?_
                    have HV22 := Lib.hid (HV21.out.below HB22.out)
                    obtain ⟨h2, c2', hv2, _, hsix, hfz⟩ := HV22.out.blk.ins (i := i) hlt (by rw [Ck_len]; exact hil')
                    rw [HVK.out] at hv2
                    have e3 : h2 = h := by injection hv2 with a _ _; injection a with a; injection a with a; exact a.symm
                    rw [e3] at hsix hfz
                    obtain ⟨i0, i1, i2, i3, i4, i5⟩ := hsix
                    have z0 := hfz (i * 6)
                    have z1 := hfz (i * 6 + 1)
                    have z2 := hfz (i * 6 + 2)
                    have z3 := hfz (i * 6 + 3)
                    have z4 := hfz (i * 6 + 4)
                    have z5 := hfz (i * 6 + 5)
                    have hst := (HV22.out.store hlt (i := i) (g := h) (c := c0) (by rw [Ck_len]; exact hil') (by rw [HVK.out, Ck_len, ← HY.out]) zI).congr (C' := Ck rn B k (i + 1)) fun j => by
                      rw [Ck_step hil' j]
                      have hr : repl (rn : Int) ((B.getD k z43).f0.getD i z62) = zI := by
                        rw [← HY.out, ← HNN.out]
                        unfold repl
                        rw [HP.out]; rfl
                      rw [hr]
                    have HST := Lib.hid hst
                    clear hst hfz hv2 e3 y22 q22
                    go_wp2_with fail
                    go_roundw
                    case rel => exact ⟨i + 1, by omega, by go_num, HST.out⟩
                    case measure => simp [intOf]; omega
                  · have HP := Lib.hid (show pureB (rn : Int) n = false by
                      unfold pureB
                      rw [HSH.out, hdb]
                      cases he : (usesL n).isEmpty
                      · rfl
                      · exact absurd (List.isEmpty_iff.1 he) hu0)
                    have hul0 : (usesL n).length ≠ 0 := fun e => hu0 (List.length_eq_zero_iff.1 e)
                    have hlb : (((usesL n).length : Int) == 0) = false := by simp; exact hu0
                    have hlb2 : ((usesL n).length == 0) = false := by simpa using hul0
                    clear hu0 hd hul0
                    go_wp2_with (first
                      | (go_at_call 26; refine (ir_Defines.calls _ _ _ _ _ _ _ _ _ HD.out).mono ?_; rintro e w19 ⟨rfl, hb19⟩; have HB19 := Lib.hid hb19; obtain ⟨n0, n1, n2, n3, n4, n5⟩ := cells6 (heap_below HKX.out hb19); have yr := cell_up (cell1 HK59.out) (HVX.out.bel.trans (hb19.mono HVX.out.bel.size)); clear hb19)
                      | (go_at_call 27; refine (ir_Uses.calls _ _ _ _ _ _ _ _ HU.out).mono ?_; rintro e w21 ⟨v21, rfl, hR21, hb21⟩; obtain ⟨A21, c21, rfl⟩ := Kd.R_slice hR21; have HB21 := Lib.hid (HB19.out.trans (hb21.mono HB19.out.size)); clear hb21 hR21)
                      | fail)
                    all_goals
                      have HBZ := HB21
                      go_roundw
                      case rel => exact ⟨i + 1, by omega, by go_num, (HVX.out.below HBZ.out).congr fun j => Ck_same hil' (by rw [← HY.out, ← HNN.out]; exact HP.out) j⟩
                      case measure => simp [intOf]; omega
                · have hdb : (n.f1 == (rn : Int)) = false := by simpa using hd
                  have HP := Lib.hid (show pureB (rn : Int) n = false by unfold pureB; rw [HSH.out, hdb]; rfl)
                  clear hd
                  go_wp2_with (first
                    | (go_at_call 26; refine (ir_Defines.calls _ _ _ _ _ _ _ _ _ HD.out).mono ?_; rintro e w19 ⟨rfl, hb19⟩; have HB19 := Lib.hid hb19; obtain ⟨n0, n1, n2, n3, n4, n5⟩ := cells6 (heap_below HKX.out hb19); have yr := cell_up (cell1 HK59.out) (HVX.out.bel.trans (hb19.mono HVX.out.bel.size)); clear hb19)
                    | fail)
                  all_goals
                    have HBZ := HB19
                    go_roundw
                    case rel => exact ⟨i + 1, by omega, by go_num, (HVX.out.below HBZ.out).congr fun j => Ck_same hil' (by rw [← HY.out, ← HNN.out]; exact HP.out) j⟩
                    case measure => simp [intOf]; omega
          · have e : i = y.f0.length := by omega
            subst e
            have HNX := Lib.hid (show LbV w9 g8 g9 nm N A2 ar.length c2 (some ⟨ga, 0, none⟩) cc V B (Ck rn B (k + 1) 0) (usedTo rn B (k + 1)) wq by
              rw [usedTo_next hlt, ← HY.out]
              exact HVQ.out.congr fun j => by rw [Ck_next, ← HY.out])
            go_wp2
            go_roundw
            case rel => exact ⟨k + 1, by omega, by go_num, HNX.out⟩
            case measure => simp [intOf]; omega
    · have e : k = B.length := by omega
      subst e
      obtain ⟨A9, c9, hv9, hcc9, hG9⟩ := HV.out.blk.reads
      obtain ⟨rfl, rfl⟩ : Ac = A9 ∧ cc = c9 := by injection hv9 with a b c; exact ⟨a, c⟩
      rw [withC_all] at hG9
      have hGl : (B.map (replB (rn : Int))).length = B.length := List.length_map ..
      have hGok := repl_okF (r := (rn : Int)) HF.out
      have hGc : ∀ x ∈ B.map (replB (rn : Int)), x.f0.length ≤ 1000 := fun x hx => by
        obtain ⟨b, hb, rfl⟩ := List.mem_map.1 hx
        show (List.map _ _).length ≤ 1000
        rw [List.length_map]; exact HCO.out b hb
      have HGL := Lib.hid hGl
      have HGOK := Lib.hid hGok
      have HGC := Lib.hid hGc
      have HG9' := Lib.hid hG9
      have HCC9 := Lib.hid hcc9
      have HUB := Lib.hid (show usedTo rn B B.length = usedB rn B by unfold usedTo usedB; rw [List.take_length])
      obtain ⟨s0, s1, s2, s3⟩ := cells4 HV.out.b8
      clear hv9 hcc9 hG9 hGl hGok hGc
      go_upto_region 21 with (first
        | ((with_reducible refine gate_dst (N := 15) rfl ?_); refine box_event ?hg (N := 15) ?hd (cs := #[.slice none 0 0, .slice none 0 0]) (t := 30) ?hr ?_; (case hd => rfl); (case hg => rfl); (case hr => first | (go_simp; done) | (go_simp; rfl)); intro g15 hg15 w32 hbox15 hbw15; have HBW15 := Lib.hid hbw15; have BK15 := Lib.hid hbox15; have HG15 := Lib.hid hg15; have f0 := blk_frozen hbox15 0; have f1 := blk_frozen hbox15 1; obtain ⟨y0, y1⟩ := cells2 hbox15; clear hbox15 hbw15 hg15)
        | (go_at_call 10; refine (HOG.out _ wo Ac cc HGL.out HGOK.out HGC.out HG9'.out HCC9.out).mono ?_; rintro e w31 ⟨Bi, di, Bo, do_, I', O', rfl, hsi, hCo, hlo, hb31⟩; have HSI' := Lib.hid hsi; have HCP := Lib.hid hCo; have HDO := Lib.hid hlo; have HB31 := Lib.hid hb31; clear hsi hCo hlo hb31 s0 s1 s2 s3)
        | fail)
      have hl15 : w31.heap.size ≤ g15 := by rw [HG15.out]; exact Nat.le_refl _
      obtain ⟨w33, hw33⟩ : ∃ w33, w33 = ((w32.setCell ⟨g15, 0, none⟩ (.slice Bi B.length di)).setCell ⟨g15, 1, none⟩ (.slice Bo B.length do_)) := ⟨_, rfl⟩
      rw [← hw33]
      have hb33 : Below w31.heap.size w31 w33 := by rw [hw33]; exact (HBW15.out.setCell (p := ⟨g15, 0, none⟩) hl15 _).setCell (p := ⟨g15, 1, none⟩) hl15 _
      have hk15 : w33.heap[g15]? = some (.cells #[.slice Bi B.length di, .slice Bo B.length do_] 30 (0, 0)) := by rw [hw33]; exact blk_put (blk_put BK15.out 0 _ rfl) 1 _ rfl
      have hbo := HB31.out.trans (hb33.mono HB31.out.size)
      have hb93 := HV.out.bel.trans (hbo.mono HV.out.bel.size)
      have HW33 := Lib.hid (show LbW w nm N A2 ar.length c2 A3 c3 B Ai ci Ao co O rn (usedB rn B) Ac cc (B.map (replB (rn : Int))) Bi di Bo do_ O' g1 g6 g5 g9 g8 g15 w33 from
        ⟨heap_below HK19.out hb93, heap_below HK6.out hb93, heap_below HK59.out hb93, HUB.out ▸ heap_below HV.out.b9 hbo, heap_below HV.out.b8 hbo, hk15, Kd.C_below HC39.out hb93, Kd.C_below HCO9.out hb93, Kd.C_below HG9'.out hbo, Kd.C_below HCP.out hb33, HB9.out.trans (hb93.mono HB9.out.size)⟩)
      clear hl15 hw33 hb33 hk15 hbo hb93 f0 f1 y0 y1 BK15 HBW15 HG15 HB31
      have hpt := pointsB_calls nm N A2 ar.length c2 A3 c3 B g1 g6 g5 g9 g8 g15 hn1 HCO.out w33 HW33.out.cB (fun b i hb hi W hW => ptB_calls hc3 HLO.out HCC9.out HDO.out hn1 HCO.out HGL.out HGC.out hN3 b i
        (by rw [bef_pt HF.out hN3 HSI.out hb hi]; exact Nat.le_trans (listN_le _) (by decide))
        (by
          have h1 := bef_pt HGOK.out hN3 HSI'.out (b := b) (i := i) (by rw [HGL.out]; exact hb) (by rw [repl_getD _ _ hb]; show i ≤ (List.map _ _).length; rw [List.length_map]; exact hi)
          rw [HGL.out] at h1
          rw [h1]; exact Nat.le_trans (listN_le _) (by decide))
        (fun hl => by
          have h1 := bounds_law HF.out hN3 rn HSI.out HSI'.out hb hi hl
          rw [HGL.out] at h1
          exact h1) W (HW33.out.step hW))
      have HPT := Lib.hid hpt
      clear hpt
      obtain ⟨⟨x0, x1, x2, x3, _, _, _⟩, _⟩ := HW33.out.cells
      go_wp2_with (first
        | (go_at_call 16; refine HPT.out.mono ?_; rintro e w34 ⟨rfl, hb34⟩; have HB34 := Lib.hid hb34; clear hb34)
        | fail)
      go_ret
      exact ⟨rfl, (HW33.out.step HB34.out).bw⟩
theorem LivenessBounds_calls (nm : ByteArray) (R : Int) (A2 : Option Addr) (c2 : Nat) (ar : List S107) (A3 : Option Addr) (c3 : Nat) (B : List S43) (x : Int) (w : World) (hC2 : k107.C w A2 ar.length ar) (hc2 : ar.length ≤ c2) (hC3 : k43.C w A3 B.length B) (hc3 : B.length ≤ c3) (hx : (Lit.int .u8 x).wf = true) :
    Calls Try.prog 6 #[.agg #[.string nm, .int .i64 R, .slice A2 ar.length c2, .slice A3 B.length c3], .int .u8 x] w fun e w' => e = .returned (.bool true) ∧ Below w.heap.size w w' := by
  have hx2 : 0 ≤ x ∧ x ≤ 255 := by
    have h := hx
    simp only [Lit.wf, Bool.and_eq_true, decide_eq_true_eq] at h
    exact ⟨h.1, h.2⟩
  obtain ⟨o, ho⟩ : ∃ o, o = formB R B := ⟨_, rfl⟩
  cases o with
  | false => exact LB_no nm R A2 c2 ar A3 c3 B x w ho hC2 hc2 hC3 hc3
  | true =>
    by_cases h0 : R = 0
    · exact LB_zero nm R A2 c2 ar A3 c3 B x w ho h0 hC2 hc2 hC3 hc3
    · exact LB_yes nm R A2 c2 ar A3 c3 B x hx2.1 hx2.2 w h0 ho hC2 hc2 hC3 hc3
end Go.Proofs.Ythgodpmahdnnjaa
end
