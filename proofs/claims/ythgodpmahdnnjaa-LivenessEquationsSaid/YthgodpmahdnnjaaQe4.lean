/- Texts of this claim, joined by a program (part 4); what nothing uses is left out. -/
import Derived.Test.YthgodpmahdnnjaaQe3
import Derived.Deep.LoopGhost
import Derived.StillTailTactics
import Derived.Deep.CutRange
import Derived.Deep.DeepCutAuto
import Derived.Deep.RegionWith
import Derived.Deep.RegionHeld3
import Derived.WalkKit
import Derived.Deep.AppendLies
import Derived.Deep.RegionLaw
set_option linter.unusedVariables false
set_option linter.unusedSimpArgs false
section
namespace Go.Proofs.Ythgodpmahdnnjaa
open Go.RowKit Go.Proofs.YthgodpmahdnnjaaW.PrintWords Go.Proofs.YthgodpmahdnnjaaW.PrintMore Go.Proofs.Ythgodpmahdnnjaa.H
def TyS (w : World) (S : Nat → Prop) (T : TypeId → Prop) : Prop := ∀ k, S k → k < w.heap.size → ∃ cs t, w.heap[k]? = some (.cells cs t (0, 0)) ∧ T t
theorem blk_ty {w w1 : World} {S : Nat → Prop} {T : TypeId → Prop} {a : Nat} {cs : Array Value} {t : TypeId} (h : w.heap[a]? = some (.cells cs t (0, 0))) (hk : Kept w w1 S) (hS : TyS w S T) (ht : ¬ T t) : w1.heap[a]? = some (.cells cs t (0, 0)) :=
  (hk.2 a (heap_lt h) fun hs => by
    obtain ⟨cs', t', e, hT⟩ := hS a hs (heap_lt h)
    rw [h] at e; cases e; exact ht hT).trans h
theorem Own1.ty {t : Nat} {w w1 : World} {s0 : Nat} {v : Value} {l : List Int} {S : Nat → Prop} {T : TypeId → Prop} (h : Own1 t w s0 v l) (hk : Kept w w1 S) (hS : TyS w S T) (ht : ¬ T (te t)) : Own1 t w1 s0 v l :=
  h.move fun k hv => by
    obtain ⟨cs, hcs⟩ := h.cells k hv
    exact (blk_ty hcs hk hS ht).trans hcs.symm
def RowsOf (w : World) (s0 : Nat) (v : Value) (ls : List (List Int)) : Prop :=
  ∃ xs : List Value, xs.length = ls.length ∧ w.ownsRow s0 39 1 v ls.length xs ∧ ∀ i, i < ls.length → Own1 3 w s0 (xs.getD i undef) (ls.getD i [])
theorem RowsOf.nil (w : World) (s0 : Nat) : RowsOf w s0 (.slice none 0 0) [] := ⟨[], rfl, World.ownsRow_nil _ _ _ _, fun i hi => absurd hi (Nat.not_lt_zero _)⟩
theorem row_cells {w : World} {s0 n sz : Nat} {e : TypeId} {v : Value} {xs : List Value} (h : w.ownsRow s0 e sz v n xs) : ∀ k, v.ownBlock = some k → ∃ cs, w.heap[k]? = some (.cells cs e (0, 0)) := by
  intro k hk
  rcases h.2 with ⟨rfl, _⟩ | ⟨g, cap, cur, rfl, _, hg, _⟩
  · cases hk
  · simp [Value.ownBlock] at hk; subst hk; exact ⟨cur, hg⟩
theorem RowsOf.cells {w : World} {s0 : Nat} {v : Value} {ls : List (List Int)} (h : RowsOf w s0 v ls) : ∀ k, v.ownBlock = some k → ∃ cs, w.heap[k]? = some (.cells cs 39 (0, 0)) := by
  obtain ⟨xs, _, h2, _⟩ := h; exact row_cells h2
theorem RowsOf.lt {w : World} {s0 : Nat} {v : Value} {ls : List (List Int)} (h : RowsOf w s0 v ls) : ∀ k, v.ownBlock = some k → s0 ≤ k ∧ k < w.heap.size := by
  obtain ⟨xs, _, h2, _⟩ := h; exact h2.lt
theorem RowsOf.ty {w w1 : World} {s0 : Nat} {v : Value} {ls : List (List Int)} {S : Nat → Prop} {T : TypeId → Prop} (h : RowsOf w s0 v ls) (hk : Kept w w1 S) (hS : TyS w S T) (h3 : ¬ T 3) (hv : ∀ k, v.ownBlock = some k → ¬ S k) : RowsOf w1 s0 v ls := by
  obtain ⟨xs, h1, h2, h4⟩ := h
  exact ⟨xs, h1, own_move h2 fun k hk' => hk.2 k (h2.lt k hk').2 (hv k hk'), fun i hi => (h4 i hi).ty hk hS h3⟩
theorem RowsOf.below {w w1 : World} {s0 : Nat} {v : Value} {ls : List (List Int)} (h : RowsOf w s0 v ls) (hb : Below w.heap.size w w1) : RowsOf w1 s0 v ls :=
  h.ty (S := fun _ => False) (T := fun _ => False) (Kept.of_below hb _) (fun _ hk => hk.elim) (fun h => h) (fun _ _ h => h)
theorem RowsOf.move {w w1 : World} {s0 : Nat} {v : Value} {ls : List (List Int)} (h : RowsOf w s0 v ls) (hm : ∀ (k : Nat) (cs : Array Value) (t : TypeId), w.heap[k]? = some (.cells cs t (0, 0)) → w1.heap[k]? = w.heap[k]?) : RowsOf w1 s0 v ls := by
  obtain ⟨xs, h1, h2, h4⟩ := h
  exact ⟨xs, h1, own_move h2 fun k hk' => by obtain ⟨cs, hcs⟩ := row_cells h2 k hk'; exact hm k cs _ hcs, fun i hi => (h4 i hi).move fun k hk' => by obtain ⟨cs, hcs⟩ := (h4 i hi).cells k hk'; exact hm k cs _ hcs⟩
theorem RowsOf.lower {w : World} {s0 s1 : Nat} {v : Value} {ls : List (List Int)} (h : RowsOf w s1 v ls) (hs : s0 ≤ s1) : RowsOf w s0 v ls := by
  obtain ⟨xs, h1, h2, h4⟩ := h
  refine ⟨xs, h1, ⟨h2.1, h2.2.imp id ?_⟩, fun i hi => (h4 i hi).lower hs⟩
  rintro ⟨g, cap, cur, e, hb, rest⟩
  exact ⟨g, cap, cur, e, by omega, rest⟩
theorem RowsOf.snoc {w w1 : World} {s0 : Nat} {v v1 x : Value} {xs : List Value} {ls : List (List Int)} {l : List Int} (h1 : xs.length = ls.length) (hown : w.ownsRow s0 39 1 v ls.length xs) (h4 : ∀ i, i < ls.length → Own1 3 w s0 (xs.getD i undef) (ls.getD i [])) (hx : Own1 3 w s0 x l)
    (hg : w.grownBy w1 v.ownBlock) (hv : w1.ownsRow s0 39 1 v1 (ls.length + 1) (xs ++ [x])) : RowsOf w1 s0 v1 (ls ++ [l]) := by
  have hk : Kept w w1 (fun k => v.ownBlock = some k) := Kept.of_grown hg (Kept.refl _ _) (fun k hk => .inl hk)
  have hS : TyS w (fun k => v.ownBlock = some k) (fun t => t = 39) := fun k hk _ => by obtain ⟨cs, hcs⟩ := row_cells hown k hk; exact ⟨cs, _, hcs, rfl⟩
  refine ⟨xs ++ [x], by simp [h1], by simpa using hv, fun i hi => ?_⟩
  rcases Nat.lt_or_ge i ls.length with hlt | hge
  · have e1 : (xs ++ [x]).getD i undef = xs.getD i undef := by simp [List.getD_eq_getElem?_getD, List.getElem?_append_left (by omega : i < xs.length)]
    have e2 : (ls ++ [l]).getD i [] = ls.getD i [] := by simp [List.getD_eq_getElem?_getD, List.getElem?_append_left hlt]
    rw [e1, e2]; exact (h4 i hlt).ty hk hS (by decide)
  · have hi' : i = ls.length := by simp at hi; omega
    subst hi'
    have e1 : (xs ++ [x]).getD ls.length undef = x := by rw [← h1]; simp [List.getD_eq_getElem?_getD]
    have e2 : (ls ++ [l]).getD ls.length [] = l := by simp [List.getD_eq_getElem?_getD]
    rw [e1, e2]; exact hx.ty hk hS (by decide)
theorem RowsOf.C {w : World} {s0 : Nat} {v : Value} {ls : List (List Int)} (h : RowsOf w s0 v ls) : ∃ A c, v = .slice A ls.length c ∧ ls.length ≤ c ∧ (Kd.slice 3 (Kd.int .i64)).C w A ls.length ls := by
  obtain ⟨xs, h1, h2, h4⟩ := h
  have hel : ∀ i p, ls[i]? = some p → ∃ c, c.length = 1 ∧ (Kd.slice 3 (Kd.int .i64)).K w p c ∧ xs[i]? = c[0]? := fun i p hp => by
    have hi : i < ls.length := (List.getElem?_eq_some_iff.1 hp).1
    have ho := h4 i hi
    have e : ls.getD i [] = p := by simp [List.getD_eq_getElem?_getD, hp]
    rw [e] at ho
    obtain ⟨A, c, ev, hl, hC⟩ := Kd.R_reads (ho.R0 (t := 3) (ok := fun _ => True) (fun _ _ => trivial))
    refine ⟨[.slice A p.length c], rfl, ⟨A, c, rfl, hl, hC⟩, ?_⟩
    have hx : i < xs.length := by omega
    rw [List.getElem?_eq_getElem hx]
    rw [List.getD_eq_getElem?_getD, List.getElem?_eq_getElem hx] at ev
    simp at ev; simp [ev]
  rcases h2.2 with ⟨rfl, h0⟩ | ⟨g, cap, cur, rfl, hb, hg, hn, hm, hc, ht⟩
  · have : ls = [] := List.eq_nil_of_length_eq_zero h0
    subst this
    exact ⟨none, 0, rfl, Nat.le_refl _, ⟨rfl, by simp, fun h => absurd h (by simp)⟩⟩
  · refine ⟨some ⟨g, 0, none⟩, cap, rfl, hn, ⟨rfl, by simp [maxLen] at hm ⊢; omega, fun _ => ⟨_, rfl, fun j p hp => ?_⟩⟩⟩
    obtain ⟨c, hc1, hK, hxc⟩ := hel j p hp
    refine ⟨c, hc1, hK, fun i u hu => ?_⟩
    have hi0 : i = 0 := by have := (List.getElem?_eq_some_iff.1 hu).1; omega
    subst hi0
    have := World.ownsRow.cells (v := .slice (some ⟨g, 0, none⟩) ls.length cap) (g := g) h2 rfl j u (by rw [hxc]; exact hu)
    simpa [show (Kd.slice 3 (Kd.int .i64)).sz = 1 from rfl] using this
end Go.Proofs.Ythgodpmahdnnjaa
end
section
namespace Go.Proofs.Ythgodpmahdnnjaa
open Go.RowKit Go.Proofs.YthgodpmahdnnjaaW.PrintWords Go.Proofs.YthgodpmahdnnjaaW.PrintMore Go.Proofs.Ythgodpmahdnnjaa.H
abbrev Vis := Nat × Nat × Nat
def visB (b : Nat) (code : List S62) (m : Nat) : List Vis := (List.range code.length).map fun j => (b, code.length - 1 - j, (code.drop (code.length - j)).foldr befN m)
def visL (B : List S43) (O : Nat → Nat) (i : Nat) : List Vis := (List.range i).flatMap fun b => visB b (B.getD b z43).f0 (endN (B.getD b z43) (O b))
theorem visL_succ (B : List S43) (O : Nat → Nat) (i : Nat) : visL B O (i + 1) = visL B O i ++ visB i (B.getD i z43).f0 (endN (B.getD i z43) (O i)) := by simp [visL, List.range_succ]
def visP (b m : Nat) {code : List S62} (pre : List (BackE code)) : List Vis :=
  (List.range pre.length).map fun j => (b, ((pre.map fun x : BackE code => x.1).getD j (0, z62)).1.toNat, foldB m (pre.take j))
theorem visP_snoc (b m : Nat) {code : List S62} (pre : List (BackE code)) (x : BackE code) : visP b m (pre ++ [x]) = visP b m pre ++ [(b, x.1.1.toNat, foldB m pre)] := by
  unfold visP
  rw [List.length_append, List.length_singleton, List.range_succ, List.map_append]
  congr 1
  · refine List.map_congr_left fun j hj => ?_
    have hj' := List.mem_range.1 hj
    rw [List.take_append_of_le_length (by omega), List.map_append]
    simp [List.getD_eq_getElem?_getD, List.getElem?_append_left, hj']
  · simp [List.getD_eq_getElem?_getD]
theorem foldB_take {code : List S62} (m : Nat) {pre : List (BackE code)} {k : Nat} (hk : k ≤ code.length) (h : pre.map (·.1) = backL code k) : foldB m pre = (code.drop (code.length - k)).foldr befN m := by
  rw [foldB_map, h]
  clear h pre
  induction k with
  | zero => rw [List.drop_eq_nil_of_le (by omega)]; rfl
  | succ k ih =>
    rw [backL_succ, List.foldl_append, ih (by omega)]
    have h1 : code.length - (k + 1) < code.length := by omega
    rw [List.drop_eq_getElem_cons h1, show code.length - (k + 1) + 1 = code.length - k by omega]
    have : code.getD (code.length - 1 - k) z62 = code[code.length - (k + 1)] := by
      rw [List.getD_eq_getElem?_getD, show code.length - 1 - k = code.length - (k + 1) by omega, List.getElem?_eq_getElem h1]; rfl
    simp only [List.foldl_cons, List.foldl_nil, List.foldr_cons, this]
theorem backL_take {code : List S62} {j k : Nat} (h : j ≤ k) : (backL code k).take j = backL code j := by
  unfold backL
  rw [← List.map_take, List.take_range, Nat.min_eq_left h]
theorem visP_all (b m : Nat) {code : List S62} {ys : List (BackE code)} (h : ys.map (·.1) = backL code code.length) : visP b m ys = visB b code m := by
  have hl : ys.length = code.length := by have := congrArg List.length h; rwa [List.length_map, backL_length] at this
  unfold visP visB
  rw [hl]
  refine List.map_congr_left fun j hj => ?_
  have hj' := List.mem_range.1 hj
  have e1 : ((ys.map fun x : BackE code => x.1).getD j (0, z62)).1.toNat = code.length - 1 - j := by
    rw [h]; simp [backL, hj', List.getD_eq_getElem?_getD]
  have e2 : foldB m (ys.take j) = (code.drop (code.length - j)).foldr befN m := foldB_take m (by omega) (by rw [List.map_take, h, backL_take (by omega)])
  rw [e1, e2]
def IsArr (W : World) (k : Nat) : Prop := ∃ cs, W.heap[k]? = some (.cells cs 54 (0, 0))
structure ActOk (R : Nat) (B : List S43) (fn : FuncId) (caps : Array Value) (w0 : World) (n₀ : Nat) (J : List Vis → World → Prop) : Prop where
  size : ∀ pre W, J pre W → n₀ ≤ W.heap.size
  stable : ∀ pre W W', J pre W → Below n₀ W W' → (∀ k, IsArr W k → W'.heap[k]? = W.heap[k]?) → J pre W'
  call : ∀ (pre : List Vis) (b p m : Nat) (A : Option Addr) (c : Nat) (W : World), J pre W → Below w0.heap.size w0 W → n₀ ≤ W.heap.size → b < B.length → p < (B.getD b z43).f0.length → m < 2 ^ R → (rowN R m).length ≤ c →
    (∀ W', Kept W W' (fun k => k < n₀ ∨ IsArr W k) → Kd.C (Kd.int .u64) W' A (rowN R m).length (rowN R m)) →
    Calls Try.prog fn (#[.int .i64 b, .int .i64 p, .agg #[.int .u8 ((B.getD b z43).f0.getD p z62).f0, .int .i64 ((B.getD b z43).f0.getD p z62).f1, .int .i64 ((B.getD b z43).f0.getD p z62).f2, .int .i64 ((B.getD b z43).f0.getD p z62).f3, .int .i64 ((B.getD b z43).f0.getD p z62).f4, .string ((B.getD b z43).f0.getD p z62).f5], .slice A (rowN R m).length c] ++ caps) W
      fun e W' => e = .returned (.tuple #[]) ∧ J (pre ++ [(b, p, m)]) W' ∧ Below w0.heap.size w0 W' ∧ Kept W W' (fun k => k < n₀ ∨ IsArr W k)
def FrV (vb vo vc vn vi : Value) (Ds : List Nat) (a : Act) : Prop := ∃ x : Nat → Value, a = { tmps := #[x 0, x 1, x 2, vb, x 4, vo, x 6, x 7, x 8, x 9, x 10, x 11, x 12, x 13, x 14, x 15, x 16, vc, vn, vi, x 20, x 21, x 22, x 23, x 24, x 25, x 26, x 27, x 28, x 29, x 30, x 31, x 32, x 33, x 34, x 35, x 36, x 37, x 38, x 39, x 40, x 41, x 42, x 43, x 44], defers := marks Ds }
theorem FrV.intro (vb vo vc vn vi y0 y1 y2 y4 y6 y7 y8 y9 y10 y11 y12 y13 y14 y15 y16 y20 y21 y22 y23 y24 y25 y26 y27 y28 y29 y30 y31 y32 y33 y34 y35 y36 y37 y38 y39 y40 y41 y42 y43 y44 : Value) (Ds : List Nat) : FrV vb vo vc vn vi Ds { tmps := #[y0, y1, y2, vb, y4, vo, y6, y7, y8, y9, y10, y11, y12, y13, y14, y15, y16, vc, vn, vi, y20, y21, y22, y23, y24, y25, y26, y27, y28, y29, y30, y31, y32, y33, y34, y35, y36, y37, y38, y39, y40, y41, y42, y43, y44], defers := marks Ds } :=
  ⟨fun i => (#[y0, y1, y2, undef, y4, undef, y6, y7, y8, y9, y10, y11, y12, y13, y14, y15, y16, undef, undef, undef, y20, y21, y22, y23, y24, y25, y26, y27, y28, y29, y30, y31, y32, y33, y34, y35, y36, y37, y38, y39, y40, y41, y42, y43, y44] : Array Value).getD i undef, rfl⟩
def Lv (wm wx : World) (gb : Nat) (vl : Value) (l : List Int) : Prop :=
  wx.heap[gb]? = some (.cells #[vl] 75 (0, 0)) ∧ wm.heap.size ≤ gb ∧ Own1 4 wx wm.heap.size vl l ∧ Below wm.heap.size wm wx
theorem Lv.new1 {wm w8 : World} {l : List Int} {vl : Value} (hb : Below wm.heap.size wm.drew w8) (ho : Own1 4 w8 wm.heap.size vl l) : Lv wm (w8.alloc (.cells #[vl] 75)) w8.heap.size vl l := by
  have hb8 : Below wm.heap.size wm w8 := (Below.refl _ wm).drew.trans hb
  exact ⟨World.alloc_heap_new w8 _, hb8.size, ho.kept (Kept.of_below ((Below.refl _ w8).alloc (Nat.le_refl _) _) (fun _ => False)) (fun _ _ h => h), hb8.alloc hb8.size _⟩
theorem Lv.new2 {wm w9 : World} {l : List Int} {vl : Value} {o : Obj} (hb : Below (wm.alloc o).heap.size (wm.alloc o).drew w9) (hnb : w9.heap[wm.heap.size]? = some (.cells #[.slice none 0 0] 75 (0, 0))) (ho : Own1 4 w9 (wm.alloc o).heap.size vl l) : Lv wm (w9.setCell ⟨wm.heap.size, 0, none⟩ vl) wm.heap.size vl l := by
  have hsz : (wm.alloc o).heap.size = wm.heap.size + 1 := alloc_size1 _ _
  have hb9 : Below wm.heap.size wm w9 := ((Below.refl _ wm).alloc (Nat.le_refl _) o).drew.trans (hb.mono (by omega))
  refine ⟨blk_put hnb 0 vl rfl, Nat.le_refl _, (ho.lower (by omega)).move fun k hk => Below.heap_setCell w9 ⟨wm.heap.size, 0, none⟩ vl k ?_, hb9.setCell (p := ⟨wm.heap.size, 0, none⟩) (Nat.le_refl _) vl⟩
  have := (ho.lt k hk).1
  show k ≠ wm.heap.size
  omega
def VisS (wd : World) (n₀ : Nat) (vl : Value) (k : Nat) : Prop := vl.ownBlock = some k ∨ k < n₀ ∨ IsArr wd k
theorem VisS.act {wd W W' : World} {n₀ : Nat} {vl : Value} (h : Kept wd W (VisS wd n₀ vl)) (k : Kept W W' (fun k => k < n₀ ∨ IsArr W k)) : Kept wd W' (VisS wd n₀ vl) := by
  refine ⟨Nat.le_trans h.1 k.1, fun i hi hn => ?_⟩
  have h1 := h.2 i hi hn
  refine (k.2 i (Nat.lt_of_lt_of_le hi h.1) fun hs => hn ?_).trans h1
  rcases hs with hs | ⟨cs, hs⟩
  · exact .inr (.inl hs)
  · exact .inr (.inr ⟨cs, by rw [← h1]; exact hs⟩)
theorem VisS.bef {wd W W' : World} {n₀ : Nat} {vl : Value} (h : Kept wd W (VisS wd n₀ vl)) (k : Kept W W' (fun k => vl.ownBlock = some k)) : Kept wd W' (VisS wd n₀ vl) :=
  h.then_ k (fun _ hk => .inl (.inl hk))
theorem VisS.blk {wd W : World} {n₀ g : Nat} {vl : Value} {cs : Array Value} {t : TypeId} (h : Kept wd W (VisS wd n₀ vl)) (hg : wd.heap[g]? = some (.cells cs t (0, 0))) (h1 : t ≠ 54) (h2 : n₀ ≤ g) (h3 : vl.ownBlock ≠ some g) : W.heap[g]? = some (.cells cs t (0, 0)) :=
  (h.2 g (heap_lt hg) fun hs => by
    rcases hs with hs | hs | ⟨cs', hs⟩
    · exact h3 hs
    · omega
    · rw [hg] at hs; cases hs; exact h1 rfl).trans hg
theorem VisS.own {wd W : World} {n₀ t : Nat} {v vl : Value} {l : List Int} (h : Kept wd W (VisS wd n₀ vl)) (ho : Own1 t wd n₀ v l) (h1 : te t ≠ 54) (h3 : ∀ k, v.ownBlock = some k → vl.ownBlock ≠ some k) : Own1 t W n₀ v l :=
  ho.move fun k hk => by
    obtain ⟨cs, hcs⟩ := ho.cells k hk
    exact (VisS.blk h hcs h1 (ho.lt k hk).1 (h3 k hk)).trans hcs.symm
theorem VisS.marks {wd W : World} {n₀ : Nat} {vl : Value} {Ds : List Nat} {l : List Int} {b0 : Nat} (h : Kept wd W (VisS wd n₀ vl)) (ho : Own1 4 wd b0 vl l) (hm : MarksOk wd n₀ Ds) : MarksOk W n₀ Ds := by
  refine ⟨hm.1, fun D hD => ⟨(hm.2 D hD).1, ?_⟩⟩
  have h1 := (hm.2 D hD).2
  refine (h.2 D (heap_lt h1) fun hs => ?_).trans h1
  rcases hs with hs | hs | ⟨cs', hs⟩
  · obtain ⟨cs, hcs⟩ := ho.cells D hs; rw [h1] at hcs; cases hcs
  · have := (hm.2 D hD).1; omega
  · rw [h1] at hs; cases hs
theorem ActOk.own {R : Nat} {B : List S43} {fn : FuncId} {caps : Array Value} {w0 : World} {n₀ b : Nat} {J : List Vis → World → Prop} {β : Type} (h : ActOk R B fn caps w0 n₀ J) (hb : n₀ ≤ b) (f : β → List Vis) : OwnFrom b (fun s W => J (f s) W) := fun s X Y row hs hg hr =>
  h.stable _ X Y hs ⟨hg.os, hg.tape, hg.output, hg.size, fun k hk => hg.block k (Nat.lt_of_lt_of_le hk (h.size _ X hs)) (fun e => by have := (hr k e.symm).1; omega)⟩ (fun k ⟨cs, hk⟩ => hg.block k (Array.getElem?_eq_some_iff.1 hk).1 (fun e => by obtain ⟨o, ho, hc⟩ := (hr k e.symm).2; rw [hk] at ho; cases ho; cases hc))
section
variable {w0 wd W W1 W2 : World} {n₀ : Nat} {vl : Value}
theorem ActK.blk {g : Nat} {cs : Array Value} {t : TypeId} (h : Kept W W1 (fun k => k < n₀ ∨ IsArr W k)) (hg : W.heap[g]? = some (.cells cs t (0, 0))) (h1 : t ≠ 54) (h2 : n₀ ≤ g) : W1.heap[g]? = some (.cells cs t (0, 0)) :=
  (h.2 g (heap_lt hg) fun hs => by
    rcases hs with hs | ⟨cs', hs⟩
    · omega
    · rw [hg] at hs; cases hs; exact h1 rfl).trans hg
theorem ActK.own {t b0 : Nat} {v : Value} {l : List Int} (h : Kept W W1 (fun k => k < n₀ ∨ IsArr W k)) (ho : Own1 t W b0 v l) (h1 : te t ≠ 54) (h2 : n₀ ≤ b0) : Own1 t W1 b0 v l :=
  ho.move fun k hk => by
    obtain ⟨cs, hcs⟩ := ho.cells k hk
    exact (ActK.blk h hcs h1 (Nat.le_trans h2 (ho.lt k hk).1)).trans hcs.symm
theorem ActK.from_ {B : Nat} (h : Kept W W1 (fun k => k < n₀ ∨ IsArr W k)) (hB : n₀ ≤ B) : KeepsFrom B W W1 :=
  ⟨h.1, fun k o hk ho hc => (h.2 k (Array.getElem?_eq_some_iff.1 ho).1 fun hs => by
    rcases hs with hs | ⟨cs', hs⟩
    · omega
    · rw [ho] at hs; cases hs; cases hc).trans ho⟩
theorem below_of_kept {S : Nat → Prop} (h1 : Below w0.heap.size w0 W1) (h2 : Below w0.heap.size w0 W2) (hk : Kept W1 W2 S) (hS : ∀ k, S k → n₀ ≤ k) (hn : n₀ ≤ W1.heap.size) : Below n₀ W1 W2 :=
  ⟨h2.os.trans h1.os.symm, h2.tape.trans h1.tape.symm, h2.output.trans h1.output.symm, hk.1, fun i hi => hk.2 i (by omega) (fun hs => by have := hS i hs; omega)⟩
end
end Go.Proofs.Ythgodpmahdnnjaa
end
section
namespace Go.Proofs.Ythgodpmahdnnjaa
open Go.RowKit Go.Proofs.YthgodpmahdnnjaaW.PrintWords Go.Proofs.YthgodpmahdnnjaaW.PrintMore Go.Proofs.Ythgodpmahdnnjaa.H
def infT (d : Nat) (X : Nat → Nat) (q : Int) : Nat → Nat := if q = (d : Int) then X else upd (upd X q.toNat (X q.toNat ||| 2 ^ d)) d (X d ||| 2 ^ q.toNat)
def infStep (B : List S43) (X : Nat → Nat) (c : Vis) : Nat → Nat :=
  if (shp ((B.getD c.1 z43).f0.getD c.2.1 z62).f0).1 then (listN c.2.2).foldl (infT ((B.getD c.1 z43).f0.getD c.2.1 z62).f1.toNat) X else X
def infN (B : List S43) (cs : List Vis) : Nat → Nat := cs.foldl (infStep B) fun _ => 0
theorem infN_snoc (B : List S43) (cs : List Vis) (c : Vis) : infN B (cs ++ [c]) = infStep B (infN B cs) c := by simp [infN]
theorem listN_mem {m R : Nat} (hm : m < 2 ^ R) {q : Int} (hq : q ∈ listN m) : 0 ≤ q ∧ q < R := by
  unfold listN at hq
  obtain ⟨r, hr, rfl⟩ := List.mem_map.1 hq
  have hb := (List.mem_filter.1 hr).2
  refine ⟨by omega, ?_⟩
  rcases Nat.lt_or_ge r R with h | h
  · omega
  · rw [Nat.testBit_lt_two_pow (Nat.lt_of_lt_of_le hm (Nat.pow_le_pow_right (by decide) h))] at hb; cases hb
theorem listN_le' (m : Nat) : (listN m).length ≤ 40 := by
  unfold listN
  rw [List.length_map]
  exact Nat.le_trans (List.length_filter_le _ _) (by simp)
theorem getD_get0 {l : List Int} {j : Nat} (hj : j < l.length) : l.getD j 0 = l[j] := by rw [List.getD_eq_getElem?_getD, List.getElem?_eq_getElem hj]; rfl
structure InfJ (N base n₀ gc gs : Nat) (vs : Nat → Value) (X : Nat → Nat) (W : World) : Prop where
  box : W.heap[gc]? = some (.cells #[.slice (some ⟨gs, 0, none⟩) N N] 71 (0, 0))
  tab : W.heap[gs]? = some (.cells (rowF vs N) 75 (0, 0))
  own : ∀ r, r < N → Own1 0 W base (vs r) (rowN N (X r))
  sep : ∀ r r', r < N → r' < N → r ≠ r' → ∀ k, (vs r).ownBlock = some k → (vs r').ownBlock ≠ some k
  lt : ∀ r, r < N → ∀ k, (vs r).ownBlock = some k → k < n₀
  gcl : gc < n₀
  gsl : gs < n₀
  xlt : ∀ r, r < N → X r < 2 ^ N
  sz : n₀ ≤ W.heap.size
section
variable {N base n₀ gc gs : Nat} {vs : Nat → Value} {X : Nat → Nat} {W W' : World}
theorem InfJ.stable (h : InfJ N base n₀ gc gs vs X W) (hb : Below n₀ W W') : InfJ N base n₀ gc gs vs X W' :=
  ⟨(hb.block gc h.gcl).trans h.box, (hb.block gs h.gsl).trans h.tab, fun r hr => (h.own r hr).move fun k hk => hb.block k (h.lt r hr k hk), h.sep, h.lt, h.gcl, h.gsl, h.xlt, Nat.le_trans h.sz hb.size⟩
theorem InfJ.turn {r m : Nat} (h : InfJ N base n₀ gc gs vs X W) (hr : r < N) (hk : Kept W W' (fun k => (vs r).ownBlock = some k)) (ho : Own1 0 W' base (vs r) (rowN N m)) (hm : m < 2 ^ N) : InfJ N base n₀ gc gs vs (upd X r m) W' := by
  have hcell := (h.own r hr).cells
  refine ⟨(hk.2 gc (heap_lt h.box) fun e => ?_).trans h.box, (hk.2 gs (heap_lt h.tab) fun e => ?_).trans h.tab, fun q hq => ?_, h.sep, h.lt, h.gcl, h.gsl, fun q hq => ?_, Nat.le_trans h.sz hk.1⟩
  · obtain ⟨cs, hcs⟩ := hcell gc e; rw [h.box] at hcs; injection hcs with h1; injection h1 with _ h2 _; exact absurd h2 (by decide)
  · obtain ⟨cs, hcs⟩ := hcell gs e; rw [h.tab] at hcs; injection hcs with h1; injection h1 with _ h2 _; exact absurd h2 (by decide)
  · by_cases e : q = r
    · subst e; rw [upd_self]; exact ho
    · rw [upd_ne _ e]; exact (h.own q hq).kept hk fun k hk1 hk2 => h.sep r q hr hq (fun e1 => e e1.symm) k hk2 hk1
  · by_cases e : q = r
    · subst e; rw [upd_self]; exact hm
    · rw [upd_ne _ e]; exact h.xlt q hq
end
set_option maxHeartbeats 4000000 in
set_option maxRecDepth 100000 in
theorem act_calls (R : Nat) (hR : R ≤ 30) (B : List S43) (hF : OkF R B) (w0 : World) (n₀ gc gs : Nat) (vs : Nat → Value) (X : Nat → Nat) (b p m : Nat) (A : Option Addr) (c : Nat) (W : World) (hj : InfJ R w0.heap.size n₀ gc gs vs X W) (hbw : Below w0.heap.size w0 W) (hw0 : w0.heap.size ≤ n₀)
    (hb : b < B.length) (hp : p < (B.getD b z43).f0.length) (hm : m < 2 ^ R) (hc : (rowN R m).length ≤ c)
    (hC : ∀ W', Kept W W' (fun k => k < n₀ ∨ IsArr W k) → Kd.C (Kd.int .u64) W' A (rowN R m).length (rowN R m)) (s : S62) (hs : s = (B.getD b z43).f0.getD p z62) :
    Calls Try.prog 48 #[.int .i64 b, .int .i64 p, .agg #[.int .u8 s.f0, .int .i64 s.f1, .int .i64 s.f2, .int .i64 s.f3, .int .i64 s.f4, .string s.f5], .slice A (rowN R m).length c, .pointer (some ⟨gc, 0, none⟩)] W
      fun e W' => e = .returned (.tuple #[]) ∧ InfJ R w0.heap.size n₀ gc gs vs (infStep B X (b, p, m)) W' ∧ Below w0.heap.size w0 W' ∧ Kept W W' (fun k => k < n₀ ∨ IsArr W k) := by
  have hOk : OkI R s := by
    rw [hs]; exact (hF.b _ (memB hb)).code _ (memI hp)
  have hstep : infStep B X (b, p, m) = if (shp s.f0).1 then (listN m).foldl (infT s.f1.toNat) X else X := by unfold infStep; rw [hs]
  obtain ⟨X', hX'⟩ : ∃ X', X' = infStep B X (b, p, m) := ⟨_, rfl⟩
  rw [← hX']
  rw [← hX'] at hstep
  have HOK := Lib.hid hOk
  have HJ := Lib.hid hj
  have HBW := Lib.hid hbw
  have HC := Lib.hid hC
  have hdef := Defines_f s
  obtain ⟨o, ho⟩ : ∃ o, o = (shp s.f0).1 := ⟨_, rfl⟩
  rw [← ho] at hstep hdef
  have HO := Lib.hid ho
  clear hOk hX' hj hbw hC ho hs
  cases o with
  | false =>
    rw [if_neg (by decide)] at hstep hdef
    subst hstep
    go_enter Try.func48, Try.ntmps48
    go_wp2_with (first
      | ((with_reducible refine gate_dst (N := 7) rfl ?_); refine box_event ?hg (N := 7) ?hd (cs := #[.int .u8 s.f0, .int .i64 s.f1, .int .i64 s.f2, .int .i64 s.f3, .int .i64 s.f4, .string s.f5]) (t := 62) ?hr ?_; (case hd => rfl); (case hg => rfl); (case hr => first | (go_simp; done) | (go_simp; rfl)); intro g hg w3 hbox hbw; have HB3 := Lib.hid hbw; obtain ⟨i0, i1, i2, i3, i4, i5⟩ := cells6 hbox; clear hbox hbw; have HG := Lib.hid hg; clear hg)
      | (go_at_call 26; refine (ir_Defines.calls _ _ _ _ _ _ _ _ _ hdef).mono ?_; rintro e w4 ⟨rfl, hb4⟩; have HB4 := Lib.hid hb4; clear hb4)
      | fail)
    refine bodyPost_ret (results_none rfl _ _ _) rfl ?_
    have hb4 : Below W.heap.size W w4 := HB3.out.trans (HB4.out.mono HB3.out.size)
    exact ⟨rfl, HJ.out.stable (hb4.mono HJ.out.sz), HBW.out.trans (hb4.mono HBW.out.size), Kept.of_below hb4 _⟩
  | true =>
    rw [if_pos rfl] at hstep hdef
    have hd := HOK.out.d HO.out.symm
    obtain ⟨d, hde⟩ : ∃ d : Nat, s.f1 = (d : Int) := ⟨s.f1.toNat, by omega⟩
    have hdR : d < R := by omega
    rw [hde, Int.toNat_natCast] at hstep
    have HDE := Lib.hid hde
    have HST := Lib.hid hstep
    have hmem : ∀ q ∈ listN m, 0 ≤ q ∧ q < R := fun q hq => listN_mem hm hq
    have HMEM := Lib.hid hmem
    have hll := listN_le' m
    have hlist := list_f (k := 70) (R := R) (by omega) hm (Nat.le_refl _)
    have hcall := fun (W1 : World) (hb1 : Below W.heap.size W W1) => liveness_set_list.calls 70 A c (rowN R m) _ W1 (HC.out W1 (Kept.of_below hb1 _)) hc hlist
    have HCALL := Lib.hid hcall
    clear hstep hde hmem hlist hcall hd
    go_enter Try.func48, Try.ntmps48
    go_wp2_with (first
      | ((with_reducible refine gate_dst (N := 7) rfl ?_); refine box_event ?hg (N := 7) ?hd (cs := #[.int .u8 s.f0, .int .i64 s.f1, .int .i64 s.f2, .int .i64 s.f3, .int .i64 s.f4, .string s.f5]) (t := 62) ?hr ?_; (case hd => rfl); (case hg => rfl); (case hr => first | (go_simp; done) | (go_simp; rfl)); intro g hg w3 hbox hbw; have HB3 := Lib.hid hbw; obtain ⟨i0, i1, i2, i3, i4, i5⟩ := cells6 hbox; clear hbox hbw; have HG := Lib.hid hg; clear hg)
      | (go_at_call 26; refine (ir_Defines.calls _ _ _ _ _ _ _ _ _ hdef).mono ?_; rintro e w4 ⟨rfl, hb4⟩; have HB4 := Lib.hid (HB3.out.trans (hb4.mono HB3.out.size)); clear hb4)
      | (go_at_call 37; refine (HCALL.out w4 HB4.out).mono ?_; rintro e w5 ⟨v5, rfl, hR5, hb5⟩; obtain ⟨A5, c5, rfl, hl5, _⟩ := Kd.R_reads hR5; have HR5 := Lib.hid (Own1.of_R0 (t := 3) hR5); have HB5 := Lib.hid (HB4.out.trans (hb5.mono HB4.out.size)); clear hR5 hb5)
      | fail)
    obtain ⟨L, hL⟩ : ∃ L, L = listN m := ⟨_, rfl⟩
    rw [← hL] at HST HMEM hll HR5 hl5 ⊢
    have HJ5 := Lib.hid (HJ.out.stable (HB5.out.mono HJ.out.sz))
    have HK5 := Lib.hid (Kept.of_below HB5.out (fun k => k < n₀ ∨ IsArr W k))
    have HBW5 := Lib.hid (HBW.out.trans (HB5.out.mono HBW.out.size))
    have hw4s : W.heap.size ≤ w4.heap.size := HB4.out.size
    clear hL i0 i1 i2 i3 i4 i5 HCALL HG HB3 hdef HC
    go_loopw [23] (fun v wr => ∃ j : Nat, j ≤ L.length ∧ v = .int .i64 j ∧ InfJ R w0.heap.size n₀ gc gs vs ((L.take j).foldl (infT d) X) wr ∧ Own1 3 wr w4.heap.size (.slice A5 L.length c5) L ∧ Below w0.heap.size w0 wr ∧ Kept W wr (fun k => k < n₀ ∨ IsArr W k)) (fun v _ => L.length - (intOf v).toNat)
    case atStart => exact ⟨0, Nat.zero_le _, rfl, HJ5.out, HR5.out, HBW5.out, HK5.out⟩
    case round =>
      obtain ⟨j, hj, rfl, hJ, hrow, hbw, hk⟩ := hrel
      obtain ⟨wo, rfl⟩ : ∃ wo, wo = wr := ⟨_, rfl⟩
      obtain ⟨_, _, hcS⟩ := Kd.R_reads' (hrow.R0 (t := 3) (ok := fun _ => True) (fun _ _ => trivial))
      have HJo := Lib.hid hJ
      have HROW := Lib.hid hrow
      have HBo := Lib.hid hbw
      have HKo := Lib.hid hk
      clear hJ hrow hbw hk HJ5 HK5 HBW5 HR5
      by_cases hjl : j < L.length
      · obtain ⟨a5, rfl, hq5⟩ := at_ints hcS j hjl
        have hqok := HMEM.out (L.getD j 0) (by rw [getD_get0 hjl]; exact List.getElem_mem hjl)
        obtain ⟨q, hq⟩ : ∃ q : Nat, L.getD j 0 = (q : Int) := ⟨(L.getD j 0).toNat, by omega⟩
        rw [hq] at hq5 hqok
        have hqR : q < R := by omega
        obtain ⟨Y, hY⟩ : ∃ Y, Y = (L.take j).foldl (infT d) X := ⟨_, rfl⟩
        rw [← hY] at HJo
        have hnext : (L.take (j + 1)).foldl (infT d) X = infT d Y (q : Int) := by
          rw [List.take_succ_eq_append_getElem hjl, List.foldl_append, hY, ← getD_get0 hjl, hq]; rfl
        have HNX := Lib.hid hnext
        clear hq hcS hnext hY
        by_cases he : q = d
        · have b1 : ((q : Int) == s.f1) = true := by rw [he, HDE.out]; simp
          have hsame : infT d Y (q : Int) = Y := by unfold infT; rw [if_pos (by rw [he])]
          have HSM := Lib.hid hsame
          clear he hsame
          go_wp2
          go_roundw
          case rel => exact ⟨j + 1, by omega, by go_num, by rw [HNX.out, HSM.out]; exact HJo.out, HROW.out, HBo.out, HKo.out⟩
          case measure => simp [intOf]; omega
        · have b1 : ((q : Int) == s.f1) = false := by rw [HDE.out]; exact beq_eq_false_iff_ne.2 (by omega)
          have hsame : infT d Y (q : Int) = upd (upd Y q (Y q ||| 2 ^ d)) d (Y d ||| 2 ^ q) := by unfold infT; rw [if_neg (by omega), Int.toNat_natCast]
          have HSM := Lib.hid hsame
          have HE := Lib.hid he
          clear he hsame
          have hf1 := add_f (R := R) (m := Y q) (r := d) (by omega) (HJo.out.xlt q hqR) hdR
          rw [← HDE.out] at hf1
          have hcall1 := liveness_set_add.calls (fun k => (vs q).ownBlock = some k) (vs q) (rowN R (Y q)) s.f1 _ w0 wo HBo.out ((HJo.out.own q hqR).R0 (t := 0) (fun _ h => h)) hf1
          have hf2 := add_f (R := R) (m := Y d) (r := q) (by omega) (HJo.out.xlt d hdR) hqR
          have hcall2 := fun (W1 : World) (hb1 : Below w0.heap.size w0 W1) (ho : Own1 0 W1 w0.heap.size (vs d) (rowN R (Y d))) => liveness_set_add.calls (fun k => (vs d).ownBlock = some k) (vs d) (rowN R (Y d)) (q : Int) _ w0 W1 hb1 (ho.R0 (t := 0) (fun _ h => h)) hf2
          have HC1 := Lib.hid hcall1
          have HC2 := Lib.hid hcall2
          have y0 : wo.cell? ⟨gc, 0, none⟩ = some (.slice (some ⟨gs, 0, none⟩) R R) := (blk_cell HJo.out.box 0).trans rfl
          obtain ⟨y1, _⟩ := cell_of_row HJo.out.tab (rowF_get hqR)
          clear hf1 hf2 hcall1 hcall2
          go_upto_region 8 with (first
            | (go_at_call 41; refine HC1.out.mono ?_; rintro e w8 ⟨rfl, hR8, hb8, hk8⟩; have HB8 := Lib.hid hb8; have HK8 := Lib.hid hk8; have HJ8 := Lib.hid (HJo.out.turn hqR hk8 (Own1.of_R0 (t := 0) hR8) (add_lt (HJo.out.xlt q hqR) hdR)); clear hR8 hb8 hk8)
            | fail)
          have ho8 := HJ8.out.own d hdR
          rw [upd_ne _ (fun e => HE.out e.symm)] at ho8
          have HO8 := Lib.hid ho8
          have x0 : w8.cell? ⟨gc, 0, none⟩ = some (.slice (some ⟨gs, 0, none⟩) R R) := (blk_cell HJ8.out.box 0).trans rfl
          obtain ⟨x1, _⟩ := cell_of_row HJ8.out.tab (rowF_get hdR)
          have hdd : (0 : Int) ≤ s.f1 ∧ s.f1 < R ∧ s.f1.toNat = d := by have := HDE.out; omega
          obtain ⟨hd1, hd2, hd3⟩ := hdd
          clear y0 y1 ho8
          go_wp2_with (first
            | (go_at_call 41; refine (HC2.out w8 HB8.out HO8.out).mono ?_; rintro e w9 ⟨rfl, hR9, hb9, hk9⟩; have HB9 := Lib.hid hb9; have HK9 := Lib.hid hk9; have HJ9 := Lib.hid (HJ8.out.turn hdR hk9 (Own1.of_R0 (t := 0) hR9) (add_lt (HJo.out.xlt d hdR) hqR)); clear hR9 hb9 hk9)
            | fail)
          go_roundw
          case rel =>
            have hX : infT d Y (q : Int) = upd (upd Y q (Y q ||| 2 ^ d)) d (Y d ||| 2 ^ q) := HSM.out
            have hlt : ∀ k, (vs q).ownBlock = some k → k < n₀ := HJo.out.lt q hqR
            have hlt2 : ∀ k, (vs d).ownBlock = some k → k < n₀ := HJo.out.lt d hdR
            have hT8 : TyS wo (fun k => (vs q).ownBlock = some k) (fun t => t = 113) := fun k hk _ => by obtain ⟨cs, hcs⟩ := (HJo.out.own q hqR).cells k hk; exact ⟨cs, _, hcs, rfl⟩
            have hT9 : TyS w8 (fun k => (vs d).ownBlock = some k) (fun t => t = 113) := fun k hk _ => by obtain ⟨cs, hcs⟩ := HO8.out.cells k hk; exact ⟨cs, _, hcs, rfl⟩
            refine ⟨j + 1, by omega, by go_num, by rw [HNX.out, hX]; exact HJ9.out, (HROW.out.ty HK8.out hT8 (by decide)).ty HK9.out hT9 (by decide), HB9.out, (HKo.out.then_ HK8.out (fun k hk => .inl (.inl (hlt k hk)))).then_ HK9.out (fun k hk => .inl (.inl (hlt2 k hk)))⟩
          case measure => simp [intOf]; omega
      · have e : j = L.length := by omega
        subst e
        rw [List.take_length, ← HST.out] at HJo
        clear hcS
        go_wp2
        first | go_end0 | (refine bodyPost_ret (results_none rfl _ _ _) rfl ?_)
        exact ⟨rfl, HJo.out, HBo.out, HKo.out⟩
end Go.Proofs.Ythgodpmahdnnjaa
end
section
namespace Go.Proofs.Ythgodpmahdnnjaa
open Go.RowKit Go.Proofs.YthgodpmahdnnjaaW.PrintWords Go.Proofs.YthgodpmahdnnjaaW.PrintMore Go.Proofs.Ythgodpmahdnnjaa.H
attribute [local go_sem] Oper.semAt_some
set_option maxHeartbeats 8000000 in
set_option maxRecDepth 100000 in
theorem visit_calls (nm : ByteArray) (R : Nat) (hR : R ≤ 30) (A2 : Option Addr) (c2 n2 : Nat) (A3 : Option Addr) (c3 : Nat) (B : List S43) (gc : Nat) (w0 w : World) (J : List Vis → World → Prop) (hb0 : Below w0.heap.size w0 w)
    (hC3 : k43.C w0 A3 B.length B) (hc3 : B.length ≤ c3) (hn : B.length ≤ 30) (hcode : ∀ x ∈ B, x.f0.length ≤ 1000) (hF : OkF R B)
    (hact : ActOk R B 48 #[.pointer (some ⟨gc, 0, none⟩)] w0 w.heap.size J) (hJ : J [] w) :
    Calls Try.prog 47 #[.agg #[.string nm, .int .i64 R, .slice A2 n2 c2, .slice A3 B.length c3], .func (.func 48) #[] #[.pointer (some ⟨gc, 0, none⟩)]] w
      fun e w' => ∃ (I O : Nat → Nat), e = .returned (.tuple #[]) ∧ SI R B I O [] ∧ J (visL B O B.length) w' ∧ Below w0.heap.size w0 w' := by
  have hne : 0 < B.length := List.length_pos_iff.2 hF.ne
  have HC3 := Lib.hid hC3
  have HCD := Lib.hid hcode
  have HF := Lib.hid hF
  have HACT := Lib.hid hact
  have HJ0 := Lib.hid hJ
  have HB0 := Lib.hid hb0
  clear hC3 hcode hF hact hJ hb0
  refine calls_of_wp_marks Try.func47 rfl ?_
  simp only [Try.ntmps47, List.size_toArray, List.length_cons, List.length_nil, Nat.reduceAdd, Nat.reduceSub, Array.replicate_succ, Array.replicate_zero, List.push_toArray, List.append_toArray, List.nil_append, List.cons_append]
  go_wp2_with (first
    | ((with_reducible refine gate_dst (N := 2) rfl ?_); refine box_event ?hg (N := 2) ?hd (cs := #[.string nm, .int .i64 R, .slice A2 n2 c2, .slice A3 B.length c3]) (t := 25) ?hr ?_; (case hd => rfl); (case hg => rfl); (case hr => first | (go_simp; done) | (go_simp; rfl)); intro g hg w1 hbox hbw; have BK := Lib.hid hbox; have HBW := Lib.hid hbw; clear hbox hbw; have HG := Lib.hid hg; clear hg)
    | ((with_reducible refine gate_dst (N := 3) rfl ?_); refine box_event ?hg (N := 3) ?hd (cs := #[.func (.func 48) #[] #[.pointer (some ⟨gc, 0, none⟩)]]) (t := 92) ?hr ?_; (case hd => rfl); (case hg => rfl); (case hr => first | (go_simp; done) | (go_simp; rfl)); intro g3 hg3 w3 hbox3 hbw3; have BK3 := Lib.hid hbox3; have HBW3 := Lib.hid hbw3; have BKA := Lib.hid (heap_below BK.out hbw3); clear hbox3 hbw3; obtain ⟨z0, z1, z2, z3⟩ := cells4 BKA.out; have HG3 := Lib.hid hg3; clear hg3)
    | (go_at_call 36; refine (solve_calls nm R hR A2 c2 n2 A3 c3 B _ (Kd.C_below (Kd.C_below (Kd.C_below HC3.out HB0.out) HBW.out) HBW3.out) hc3 hn HCD.out HF.out).mono ?_; rintro e w7 ⟨gi, go_, V, I, O, rfl, hsi, hown, hgi, hgo, hb7, _, hgow3⟩; have HSI := Lib.hid hsi; have HOWN := Lib.hid hown; have HGO := Lib.hid hgo; have HB7 := Lib.hid hb7; have BKB := Lib.hid (heap_below BKA.out hb7); have BKC := Lib.hid (heap_below BK3.out hb7); clear hsi hown hgi hgo hb7 z0 z1 z2 z3; obtain ⟨z0, z1, z2, z3⟩ := cells4 BKB.out)
    | fail)
  have hb03 : Below w.heap.size w w3 := HBW.out.trans (HBW3.out.mono HBW.out.size)
  have hw3 : w.heap.size ≤ w3.heap.size := hb03.size
  have hb07 : Below w.heap.size w w7 := hb03.trans (HB7.out.mono hw3)
  have hg3w : w.heap.size ≤ g3 := by rw [HG3.out]; exact HBW.out.size
  have HB07 := Lib.hid (HB0.out.trans (hb07.mono HB0.out.size))
  have HJ7 := Lib.hid (HACT.out.stable _ _ _ HJ0.out hb07 (fun k ⟨cs, hk⟩ => hb07.block k (heap_lt hk)))
  have HOWN7 := Lib.hid (show ∀ b, b < B.length → Own1 1 w7 w.heap.size (V 1 b) (rowN R (O b)) from fun b hb => (HOWN.out b hb).2.lower hw3)
  have hgow : w.heap.size ≤ go_ := Nat.le_trans hw3 hgow3
  have HSZ7 := Lib.hid hb07.size
  clear z0 z1 z2 z3 BK BK3 BKA BKB HBW HBW3 HG HG3 HB7 hb03 hb07 HOWN
  refine wp_loop_ghost_k (fun k a wr => ∃ (Ds : List Nat) (i : Nat), i ≤ B.length ∧ FrV (.pointer (some ⟨g3, 0, none⟩)) (.slice (some ⟨go_, 0, none⟩) B.length B.length) (.slice A3 B.length c3) (.int .i64 B.length) (.int .i64 i) Ds a ∧ MarksOk wr w.heap.size Ds ∧ wr.heap[g3]? = some (.cells #[.func (.func 48) #[] #[.pointer (some ⟨gc, 0, none⟩)]] 92 (0, 0)) ∧
    wr.heap[go_]? = some (.cells (rowF (V 1) B.length) 75 (0, 0)) ∧ (∀ b, b < B.length → Own1 1 wr w.heap.size (V 1 b) (rowN R (O b))) ∧ J (visL B O i) wr ∧ Below w0.heap.size w0 wr ∧ w.heap.size ≤ wr.heap.size ∧ k = B.length - i) (B.length) ?_ ?_
  · exact ⟨[], 0, Nat.zero_le _, by apply FrV.intro, ⟨List.nodup_nil, by simp⟩, BKC.out, HGO.out, HOWN7.out, HJ7.out, HB07.out, HSZ7.out, rfl⟩
  · intro gk a wr hI JJ K hJJ hK
    clear HB07 HJ7 HOWN7 HSZ7 HGO BKC HJ0
    obtain ⟨Ds, i, hi, ⟨x, rfl⟩, hmk, hbk3, hgo, hown, hj, hbw, hsz, hgk⟩ := hI
    have HMK := Lib.hid hmk
    have HBK3 := Lib.hid hbk3
    have HGO := Lib.hid hgo
    have HOWN := Lib.hid hown
    have HJ := Lib.hid hj
    have HBW := Lib.hid hbw
    have HSZ := Lib.hid hsz
    have HGK := Lib.hid hgk
    have HJJ := Lib.hid hJJ
    clear hmk hbk3 hgo hown hj hbw hsz hgk hJJ
    by_cases hlt : i < B.length
    · obtain ⟨ad, A0, c0, hA3, p0, p1, p2, p3, p4, hl0, hC0⟩ := at_T43 HC3.out (i : Int) (by omega) (by omega)
      subst hA3
      rw [Int.toNat_natCast] at p0 p1 p2 p3 p4
      have hrd : rd_T43 B (i : Int) = B.getD i z43 := by unfold rd_T43; rw [Int.toNat_natCast]
      rw [hrd] at p0 p1 p2 p3 p4 hl0 hC0
      have hmem := memB hlt
      have hOb := HF.out.b _ hmem
      have hcl := HCD.out _ hmem
      obtain ⟨y, hy⟩ : ∃ y, y = B.getD i z43 := ⟨_, rfl⟩
      rw [← hy] at p0 p1 p2 p3 p4 hl0 hC0 hOb hcl
      have q0 := (World.cell?_of_block (HBW.out.block _ (World.block_lt_of_cell? w0 _ p0))).trans p0
      have q1 := (World.cell?_of_block (HBW.out.block _ (World.block_lt_of_cell? w0 _ p1))).trans p1
      have q2 := (World.cell?_of_block (HBW.out.block _ (World.block_lt_of_cell? w0 _ p2))).trans p2
      have q3 := (World.cell?_of_block (HBW.out.block _ (World.block_lt_of_cell? w0 _ p3))).trans p3
      have q4 := (World.cell?_of_block (HBW.out.block _ (World.block_lt_of_cell? w0 _ p4))).trans p4
      have HY := Lib.hid hy
      have HOB := Lib.hid hOb
      have HC0 := Lib.hid hC0
      have HHK := Lib.hid hK
      clear p0 p1 p2 p3 p4 hy hOb hC0 hrd hmem hK
      go_upto_region 5 with (first
        | ((with_reducible refine gate_dst (N := 6) rfl ?_); refine box_event ?hg (N := 6) ?hd (cs := #[.int .i64 0]) (t := 3) ?hr ?_; (case hd => rfl); (case hg => rfl); (case hr => first | (go_simp; done) | (go_simp; rfl)); intro g6 hg6 w6 hbox6 hbw6; have BK6 := Lib.hid hbox6; have HBW6 := Lib.hid hbw6; have HG6 := Lib.hid hg6; clear hbox6 hbw6 hg6)
        | ((with_reducible refine gate_dst (N := 7) rfl ?_); refine box_event ?hg (N := 7) ?hd (cs := #[.slice none 0 0, .int .u8 0, .int .i64 0, .int .i64 0, .int .i64 0]) (t := 43) ?hr ?_; (case hd => rfl); (case hg => rfl); (case hr => first | (go_simp; done) | (go_simp; rfl)); intro g7 hg7 w7b hbox7 hbw7; obtain ⟨y0, y1, y2, y3, y4⟩ := cells5 hbox7; have f0 := blk_frozen hbox7 0; have f1 := blk_frozen hbox7 1; have f2 := blk_frozen hbox7 2; have f3 := blk_frozen hbox7 3; have f4 := blk_frozen hbox7 4; have BK7 := Lib.hid hbox7; have HBW7 := Lib.hid hbw7; have BK6b := Lib.hid (heap_below BK6.out hbw7); have HG7 := Lib.hid hg7; clear hbox7 hbw7 hg7; have n0 : w7b.cell? ⟨g6, 0, none⟩ = some (.int .i64 0) := (blk_cell BK6b.out 0).trans rfl; have fn0 := blk_frozen BK6b.out 0; have hg67 : g6 ≠ g7 := by rw [HG7.out]; have := heap_lt BK6.out; omega)
        | fail)
      obtain ⟨w4, hw4⟩ : ∃ w4, w4 = ((((((w7b.setCell ⟨g6, 0, none⟩ (.int .i64 i)).setCell ⟨g7, 0, none⟩ (.slice A0 y.f0.length c0)).setCell ⟨g7, 1, none⟩ (.int .u8 y.f1)).setCell ⟨g7, 2, none⟩ (.int .i64 y.f2)).setCell ⟨g7, 3, none⟩ (.int .i64 y.f3)).setCell ⟨g7, 4, none⟩ (.int .i64 y.f4)) := ⟨_, rfl⟩
      have hg6e : wr.heap.size ≤ g6 := by rw [HG6.out]; exact Nat.le_refl _
      have hg7e : wr.heap.size ≤ g7 := by rw [HG7.out]; exact HBW6.out.size
      have hb4 : Below wr.heap.size wr w4 := by
        rw [hw4]
        exact ((((((HBW6.out.trans (HBW7.out.mono HBW6.out.size)).setCell (p := ⟨g6, 0, none⟩) hg6e _).setCell (p := ⟨g7, 0, none⟩) hg7e _).setCell (p := ⟨g7, 1, none⟩) hg7e _).setCell (p := ⟨g7, 2, none⟩) hg7e _).setCell (p := ⟨g7, 3, none⟩) hg7e _).setCell (p := ⟨g7, 4, none⟩) hg7e _
      have hk67 : (w7b.setCell ⟨g6, 0, none⟩ (.int .i64 i)).heap[g7]? = _ := (Below.heap_setCell w7b ⟨g6, 0, none⟩ (.int .i64 i) g7 (fun e => hg67 e.symm)).trans BK7.out
      have hk7 : w4.heap[g7]? = some (.cells #[.slice A0 y.f0.length c0, .int .u8 y.f1, .int .i64 y.f2, .int .i64 y.f3, .int .i64 y.f4] 43 (0, 0)) := by rw [hw4]; exact blk_five hk67 _ _ _ _ _
      have hk6 : w4.heap[g6]? = some (.cells #[.int .i64 i] 3 (0, 0)) := by
        rw [hw4]
        have h0 : (w7b.setCell ⟨g6, 0, none⟩ (.int .i64 i)).heap[g6]? = some (.cells #[.int .i64 i] 3 (0, 0)) := blk_put BK6b.out 0 _ rfl
        exact (Below.heap_setCell _ ⟨g7, 4, none⟩ _ g6 hg67).trans ((Below.heap_setCell _ ⟨g7, 3, none⟩ _ g6 hg67).trans ((Below.heap_setCell _ ⟨g7, 2, none⟩ _ g6 hg67).trans ((Below.heap_setCell _ ⟨g7, 1, none⟩ _ g6 hg67).trans ((Below.heap_setCell _ ⟨g7, 0, none⟩ _ g6 hg67).trans h0))))
      rw [← hw4]
      have hg64 : g6 < w4.heap.size := heap_lt hk6
      have hg34 : g3 < w4.heap.size := heap_lt (heap_below HBK3.out hb4)
      have hsz4 : w.heap.size ≤ w4.heap.size := Nat.le_trans HSZ.out hb4.size
      have HB4 := Lib.hid hb4
      have HBW4 := Lib.hid (HBW.out.trans (hb4.mono HBW.out.size))
      have HK7 := Lib.hid hk7
      have HK6 := Lib.hid hk6
      have HK3 := Lib.hid (heap_below HBK3.out hb4)
      have HGO4 := Lib.hid (heap_below HGO.out hb4)
      have HMK4 := Lib.hid (HMK.out.below hb4)
      have HOWN4 := Lib.hid (show ∀ b, b < B.length → Own1 1 w4 w.heap.size (V 1 b) (rowN R (O b)) from fun b hb => (HOWN.out b hb).kept (Kept.of_below hb4 (fun _ => False)) (fun _ _ h => h))
      have HJ4 := Lib.hid (HACT.out.stable _ _ _ HJ.out (hb4.mono HSZ.out) (fun k ⟨cs, hk⟩ => hb4.block k (heap_lt hk)))
      clear hw4 hb4 hk67 hk7 hk6 y0 y1 y2 y3 y4 f0 f1 f2 f3 f4 n0 fn0 q0 q1 q2 q3 q4 BK6 BK7 BK6b HBW6 HBW7 HG6 HG7 HMK HGO HOWN HJ HBK3
      have ho1 := HOWN4.out i hlt
      obtain ⟨A1, c1, e1, hl1, hC1⟩ := Kd.R_reads (ho1.R0 (t := 1) (ok := fun _ => True) (fun _ _ => trivial))
      have hOl := (HSI.out.lt i hlt).2
      have hend := AtEnd_f (R := R) (by omega) HOB.out hOl
      have hcall := fun (W1 : World) (hb1 : Below w4.heap.size w4 W1) => liveness_atEnd.calls A0 c0 y.f0 y.f1 y.f2 y.f3 y.f4 A1 c1 (rowN R (O i)) _ W1 (Kd.C_below (Kd.C_below HC0.out HBW4.out) hb1) hl0 (Kd.C_below hC1 hb1) hl1 hend
      have HCALL := Lib.hid hcall
      obtain ⟨r1, _⟩ := cell_of_row HGO4.out (rowF_get hlt)
      rw [e1] at r1
      have HE1 := Lib.hid e1
      obtain ⟨k0, k1, k2, k3, k4⟩ := cells5 HK7.out
      have n6 : w4.cell? ⟨g6, 0, none⟩ = some (.int .i64 i) := (blk_cell HK6.out 0).trans rfl
      clear ho1 hC1 hl1 hcall hend e1
      go_cut [8] from 20 to 44 (fun v8 wx => ∃ (gb : Nat) (vl : Value), v8 = .pointer (some ⟨gb, 0, none⟩) ∧ Lv w4 wx gb vl (rowN R (endN y (O i))))
      case first =>
        skip
        have hal : Below w4.heap.size w4 (w4.alloc (.cells #[.slice none 0 0] 75)).drew := ((Below.refl w4.heap.size w4).alloc (Nat.le_refl _) _).drew
        obtain ⟨r1a, _⟩ := cell_of_row (heap_below HGO4.out hal) (rowF_get hlt)
        rw [HE1.out] at r1a
        obtain ⟨k0a, k1a, k2a, k3a, k4a⟩ := cells5 (heap_below HK7.out hal)
        have n6a : (w4.alloc (.cells #[.slice none 0 0] 75)).drew.cell? ⟨g6, 0, none⟩ = some (.int .i64 i) := (blk_cell (heap_below HK6.out hal) 0).trans rfl
        have HAL := Lib.hid hal
        clear hal
        go_region_with (first
          | (go_at_call 42; refine (HCALL.out w4.drew (Below.refl _ _).drew).mono ?_; rintro e w8 ⟨v8, rfl, hR8, hb8⟩; obtain ⟨A8, c8, rfl, _, _⟩ := Kd.R_reads hR8; have HR8 := Lib.hid hR8; have HB8 := Lib.hid hb8; clear hR8 hb8)
          | (go_at_call 42; refine (HCALL.out (w4.alloc (.cells #[.slice none 0 0] 75)).drew HAL.out).mono ?_; rintro e w9 ⟨v9, rfl, hR9, hb9⟩; obtain ⟨A9, c9, rfl, _, _⟩ := Kd.R_reads hR9; have hnb : w9.heap[w4.heap.size]? = some (.cells #[.slice none 0 0] 75 (0, 0)) := heap_below (w := (w4.alloc (.cells #[.slice none 0 0] 75)).drew) (World.alloc_heap_new w4 _) hb9; have n0 : w9.cell? ⟨w4.heap.size, 0, none⟩ = some (.slice none 0 0) := (blk_cell hnb 0).trans rfl; have fn0 := blk_frozen hnb 0; have HNB := Lib.hid hnb; clear hnb; have HR9 := Lib.hid hR9; have HB9 := Lib.hid hb9; clear hR9 hb9)
          | fail)
        all_goals
          first
            | (have hX := Lv.new1 (wm := w4) HB8.out (Own1.of_R0 (t := 4) HR8.out)
               have HX := Lib.hid hX
               clear hX
               go_wp2_with fail
               go_meet
               case rel => exact ⟨_, _, rfl, HX.out⟩)
            | (have hX := Lv.new2 (wm := w4) HB9.out HNB.out (Own1.of_R0 (t := 4) HR9.out)
               have HX := Lib.hid hX
               clear hX
               go_wp2_with fail
               go_meet
               case rel => exact ⟨_, _, rfl, HX.out⟩)
      case rest =>
        obtain ⟨gb, vl, rfl, hgb, hgbl, hvl, hbx⟩ := hcut
        obtain ⟨wx, rfl⟩ : ∃ wx, wx = wc := ⟨_, rfl⟩
        have HGB := Lib.hid hgb
        have HVL := Lib.hid hvl
        have HBX := Lib.hid (HBW4.out.trans (hbx.mono HBW4.out.size))
        have HK7x := Lib.hid (heap_below HK7.out hbx)
        have HK6x := Lib.hid (heap_below HK6.out hbx)
        have HK3x := Lib.hid (heap_below HK3.out hbx)
        have HGOx := Lib.hid (heap_below HGO4.out hbx)
        have HMKx := Lib.hid (HMK4.out.below hbx)
        have HOWNx := Lib.hid (show ∀ b, b < B.length → Own1 1 wx w.heap.size (V 1 b) (rowN R (O b)) from fun b hb => (HOWN4.out b hb).kept (Kept.of_below hbx (fun _ => False)) (fun _ _ h => h))
        have hVlt : ∀ b, b < B.length → ∀ k, (V 1 b).ownBlock = some k → k < w4.heap.size := fun b hb k hk => ((HOWN4.out b hb).lt k hk).2
        have HVLT := Lib.hid hVlt
        have HJx := Lib.hid (HACT.out.stable _ _ _ HJ4.out (hbx.mono hsz4) (fun k ⟨cs, hk⟩ => hbx.block k (heap_lt hk)))
        have hszx : w.heap.size ≤ wx.heap.size := Nat.le_trans hsz4 hbx.size
        clear hgb hvl hbx hVlt r1 k0 k1 k2 k3 k4 n6 HCALL HGO4 HMK4 HOWN4 HJ4 HK7 HK6 HK3
        obtain ⟨k0, k1, k2, k3, k4⟩ := cells5 HK7x.out
        have hC9 := (callsIn_wide (n := 0)).1 (back_in Fence.wide 0 trivial rfl A0 y.f0.length c0 wx)
        go_wp2_with (first
          | (go_at_call 43; refine hC9.mono ?_; rintro e wd ⟨rfl, hwd⟩; have HWD := Lib.hid hwd; clear hwd hC9)
          | fail)
        have hcd : Below wx.heap.size wx wd := by rw [HWD.out]; exact (Below.refl _ wx).alloc (Nat.le_refl _) _
        have hszd : wd.heap.size = wx.heap.size + 1 := by rw [HWD.out]; exact alloc_size1 _ _
        have HBS := Lib.hid (show wd.heap[wx.heap.size]? = some (.cells #[.slice A0 y.f0.length c0] 41 (0, 0)) by rw [HWD.out]; exact World.alloc_heap_new wx _)
        have HBWD := Lib.hid (HBX.out.trans (hcd.mono HBX.out.size))
        have HGBd := Lib.hid (heap_below HGB.out hcd)
        have HK6d := Lib.hid (heap_below HK6x.out hcd)
        have HK3d := Lib.hid (heap_below HK3x.out hcd)
        have HGOd := Lib.hid (heap_below HGOx.out hcd)
        have HMKd := Lib.hid (HMKx.out.below hcd)
        have HOWNd := Lib.hid (show ∀ b, b < B.length → Own1 1 wd w.heap.size (V 1 b) (rowN R (O b)) from fun b hb => (HOWNx.out b hb).kept (Kept.of_below hcd (fun _ => False)) (fun _ _ h => h))
        have HVLd := Lib.hid (HVL.out.kept (Kept.of_below hcd (fun _ => False)) (fun _ _ h => h))
        have HJd := Lib.hid (HACT.out.stable _ _ _ HJx.out (hcd.mono hszx) (fun k ⟨cs, hk⟩ => hcd.block k (heap_lt hk)))
        have hm1 : endN y (O i) < 2 ^ R := endN_lt HOB.out hOl
        obtain ⟨m1, hm1e⟩ : ∃ m1, m1 = endN y (O i) := ⟨_, rfl⟩
        rw [← hm1e] at HVLd hm1
        have HM1 := Lib.hid hm1e
        have hcdo : ∀ i ∈ y.f0, OkI R i := HOB.out.code
        have HCDO := Lib.hid hcdo
        have hw0 : w0.heap.size ≤ w.heap.size := HB0.out.size
        have hvll : ∀ k, vl.ownBlock = some k → w4.heap.size ≤ k := fun k hk => (HVLd.out.lt k hk).1
        have HVLL := Lib.hid hvll
        clear hcd hcdo hm1e hvll k0 k1 k2 k3 k4 HGB HVL HK7x HK6x HK3x HGOx HMKx HOWNx HJx
        refine with_act _ ?_
        intro A hA
        refine (wpIn_wide (n := 9)).1 ?_
        refine wpIn_rangeFunc_ownH (F := Fence.wide) (n := 9) rfl (by decide) (gf := 67) (lb := #[.pointer (some ⟨wx.heap.size, 0, none⟩)]) (by rw [hA]; rfl) trivial (enters_of Try.func67 (by kernel_rfl) rfl)
          (back_stops Fence.wide 8 trivial rfl (by decide) wx.heap.size w0 A0 c0 y.f0 HC0.out hcl wd HBWD.out HBS.out) (fun h k => KeepB.trans h k) (keepB_b HBWD.out.size (by omega)) (Below.refl _ _) (fun _ => rfl)
          (fun pre W => (Own1 4 W w4.heap.size vl (rowN R (foldB m1 pre)) ∧ W.heap[gb]? = some (.cells #[vl] 75 (0, 0)) ∧ W.heap[wx.heap.size]? = some (.cells #[.slice A0 y.f0.length c0] 41 (0, 0))) ∧ (Below w0.heap.size w0 W ∧ Kept wd W (VisS wd w.heap.size vl)) ∧ J (visL B O i ++ visP i m1 pre) W) (fun _ _ _ => False)
          (OwnFrom.and (OwnFrom.and (Own.from (own_own1 4 w4.heap.size (fun _ => vl) (fun pre => rowN R (foldB m1 pre))) _) (OwnFrom.and (Own.from (own_cells gb (fun _ => #[vl]) 75) _) (Own.from (own_cells wx.heap.size (fun _ => #[.slice A0 y.f0.length c0]) 41) _))) (OwnFrom.and (OwnFrom.and (ownFrom_below (Nat.le_refl _) HBWD.out.size) (ownFrom_kept (Nat.le_refl _) (fun _ => VisS wd w.heap.size vl))) (HACT.out.own (by omega) (fun pre => visL B O i ++ visP i m1 pre))))
          (fun _ _ _ _ _ hs _ _ => hs) ⟨⟨HVLd.out, HGBd.out, HBS.out⟩, ⟨HBWD.out, Kept.refl _ _⟩, by have := HJd.out; simpa [visP] using this⟩
          (fun x a' W => ∃ Bx, W.heap[Bx]? = some (.cells #[.int .u8 x.1.2.f0, .int .i64 x.1.2.f1, .int .i64 x.1.2.f2, .int .i64 x.1.2.f3, .int .i64 x.1.2.f4, .string x.1.2.f5] 62 (0, 0)) ∧ w.heap.size ≤ Bx ∧
            a' = { tmps := (((A.tmps.setIfInBounds 33 (.int .i64 x.1.1)).setIfInBounds 34 (.agg #[.int .u8 x.1.2.f0, .int .i64 x.1.2.f1, .int .i64 x.1.2.f2, .int .i64 x.1.2.f3, .int .i64 x.1.2.f4, .string x.1.2.f5])).setIfInBounds 9 (.int .i64 x.1.1)).setIfInBounds 10 (.pointer (some ⟨Bx, 0, none⟩)), defers := [] })
          (fun x a' _ X Y row hs hg hr => by obtain ⟨Bx, h1, h2⟩ := hs; exact ⟨Bx, own_cells Bx (fun (_ : Unit) => #[.int .u8 x.1.2.f0, .int .i64 x.1.2.f1, .int .i64 x.1.2.f2, .int .i64 x.1.2.f3, .int .i64 x.1.2.f4, .string x.1.2.f5]) 62 () X Y row h1 hg (fun r e => (hr r e).2), h2⟩)
          ?assign ?body ?done ?stop
        case assign =>
          rintro l pre x W K ⟨⟨h1, h2, h4⟩, ⟨h3, h5⟩, h6⟩ hK
          subst hA
          unfold encB
          gi_wp2
          have hal : Below W.heap.size W (W.alloc (.cells #[.int .u8 x.1.2.f0, .int .i64 x.1.2.f1, .int .i64 x.1.2.f2, .int .i64 x.1.2.f3, .int .i64 x.1.2.f4, .string x.1.2.f5] 62)) := (Below.refl _ W).alloc (Nat.le_refl _) _
          have hszW : w.heap.size ≤ W.heap.size := HACT.out.size _ _ h6
          exact hK _ _ ((KeepsOthers.alloc _ _).from _) ⟨(Below.refl _ W).alloc h3.size _, Below.heap_alloc W _ _ (heap_lt h4)⟩ ⟨⟨h1.kept (Kept.of_below hal (fun _ => False)) (fun _ _ h => h), (Below.heap_alloc W _ _ (heap_lt h2)).trans h2, (Below.heap_alloc W _ _ (heap_lt h4)).trans h4⟩, ⟨h3.alloc h3.size _, h5.alloc _⟩, HACT.out.stable _ _ _ h6 (hal.mono hszW) (fun k ⟨cs, hk⟩ => hal.block k (heap_lt hk))⟩ ⟨W.heap.size, World.alloc_heap_new W _, hszW, rfl⟩
        case body =>
          rintro l pre x a' W _ _ ⟨⟨h1, h2, h4⟩, ⟨h3, h5⟩, h6⟩ ⟨Bx, hbx, hBxl, rfl⟩ _
          subst hA
          obtain ⟨⟨xi, xs⟩, p, hp, hxe⟩ := x
          have hx1 := (Prod.mk.inj hxe).1
          have hx2 := (Prod.mk.inj hxe).2
          subst hx1
          have hszW : w.heap.size ≤ W.heap.size := HACT.out.size _ _ h6
          have hml : foldB m1 pre < 2 ^ R := foldB_lt HCDO.out pre m1 hm1
          have hvn : ∀ k, vl.ownBlock = some k → w.heap.size ≤ k := fun k hk => Nat.le_trans hsz4 (HVLL.out k hk)
          obtain ⟨Av, cv, ev, hlv, _⟩ := Kd.R_reads (h1.R0 (t := 4) (ok := fun k => vl.ownBlock = some k) (fun _ h => h))
          have hC : ∀ W', Kept W W' (fun k => k < w.heap.size ∨ IsArr W k) → Kd.C (Kd.int .u64) W' Av (rowN R (foldB m1 pre)).length (rowN R (foldB m1 pre)) :=
            Kd.C_kept_own (d := Kd.int .u64) (e := 113) (base := w4.heap.size) (ok := fun k => vl.ownBlock = some k) (c := cv) (by rw [← ev]; exact h1.R0 (t := 4) (fun _ h => h)) (fun k hk hs => by
              rcases hs with hs | ⟨cs, hs⟩
              · have := hvn k hk; omega
              · obtain ⟨cs', hcs'⟩ := h1.cells k hk; rw [hs] at hcs'; injection hcs' with h1; injection h1 with _ h2 _; exact absurd h2 (by decide))
          have hact := HACT.out.call (visL B O i ++ visP i m1 pre) i p (foldB m1 pre) Av cv W h6 h3 hszW hlt (by rw [← HY.out]; exact hp) hml hlv hC
          rw [← HY.out, ← hx2] at hact
          have hOs : OkI R xs := by rw [hx2]; exact HCDO.out _ (by rw [List.getD_eq_getElem?_getD, List.getElem?_eq_getElem hp]; simp)
          have HOS := Lib.hid hOs
          clear hOs
          simp only [List.append_toArray, List.cons_append, List.nil_append] at hact
          have hacall := CallsIn.inRound l ((callsIn_wide (n := 9 - 1 - 1 - 1)).2 hact)
          have HACALL := Lib.hid hacall
          obtain ⟨i0, i1, i2, i3, i4, i5⟩ := cells6 hbx
          have n0 : W.cell? ⟨gb, 0, none⟩ = some vl := (blk_cell h2 0).trans rfl
          rw [ev] at n0
          have hg6w : w.heap.size ≤ g6 := Nat.le_trans HSZ.out hg6e
          have hk6 := VisS.blk h5 HK6d.out (by decide) hg6w (fun e => by have h7 := HVLL.out g6 e; have h8 := hg64; omega)
          have hk3 := VisS.blk h5 HK3d.out (by decide) hg3w (fun e => by have h7 := HVLL.out g3 e; have h8 := hg34; omega)
          have n6 : W.cell? ⟨g6, 0, none⟩ = some (.int .i64 i) := (blk_cell hk6 0).trans rfl
          have n3 : W.cell? ⟨g3, 0, none⟩ = some (.func (.func 48) #[] #[.pointer (some ⟨gc, 0, none⟩)]) := (blk_cell hk3 0).trans rfl
          have H1 := Lib.hid h1
          have H2 := Lib.hid h2
          have H3 := Lib.hid h3
          have H4 := Lib.hid h4
          have H5 := Lib.hid h5
          have H6 := Lib.hid h6
          have HBX2 := Lib.hid hbx
          have HEV := Lib.hid ev
          clear hact hacall h1 h2 h3 h4 h5 h6 hbx hC hk6 hk3 ev hx2
          simp only [List.setIfInBounds_toArray, List.set_cons_succ, List.set_cons_zero]
          gi_wp2
          refine ⟨trivial, HACALL.out.mono ?_⟩
          rintro e W1 ⟨rfl, hj1, hb1, hk1⟩
          have hown1 := ActK.own hk1 H1.out (by decide) hsz4
          have hgb1 := ActK.blk hk1 H2.out (by decide) (Nat.le_trans hsz4 hgbl)
          have hbs1 := ActK.blk hk1 H4.out (by decide) hszx
          have hbx1 := ActK.blk hk1 HBX2.out (by decide) hBxl
          have hbef := Before_f (R := R) (by omega) HOS.out hml
          have hcall := CallsIn.inRound l ((callsIn_wide (n := 9 - 1 - 1 - 1)).2 (liveness_before.calls 10 _ _ _ _ _ _ (fun k => vl.ownBlock = some k) vl _ _ w0 W1 hb1 ((hown1.lower (Nat.le_trans hw0 hsz4)).R0 (t := 4) (fun _ h => h)) hbef))
          have HCALL2 := Lib.hid hcall
          clear i0 i1 i2 i3 i4 i5 n0 n6 n3
          obtain ⟨i0, i1, i2, i3, i4, i5⟩ := cells6 hbx1
          have n0 : W1.cell? ⟨gb, 0, none⟩ = some vl := (blk_cell hgb1 0).trans rfl
          have HJ1 := Lib.hid hj1
          have HB1 := Lib.hid hb1
          have HK1 := Lib.hid hk1
          have HO1 := Lib.hid hown1
          have HGB1 := Lib.hid hgb1
          have HBS1 := Lib.hid hbs1
          clear hcall hbef hj1 hb1 hk1 hown1 hgb1 hbs1 hbx1 HACALL
          gi_wp2
          refine ⟨trivial, HCALL2.out.mono ?_⟩
          rintro e W2 ⟨rfl, hR', hB', hK'⟩
          have HR' := Lib.hid hR'
          have HB' := Lib.hid hB'
          have HK' := Lib.hid hK'
          clear hR' hB' hK' i0 i1 i2 i3 i4 i5 n0
          gi_wp2
          have hcells : ∀ k, vl.ownBlock = some k → k < W1.heap.size → ∃ cs t fr, W1.heap[k]? = some (.cells cs t fr) := fun k hk _ => by
            obtain ⟨cs, hcs⟩ := HO1.out.cells k hk; exact ⟨cs, _, _, hcs⟩
          have hne : ∀ k cs t, W1.heap[k]? = some (.cells cs t (0, 0)) → t ≠ te 4 → ¬ vl.ownBlock = some k := fun k cs t hk ht hS => by
            obtain ⟨cs', hcs'⟩ := HO1.out.cells k hS
            rw [hk] at hcs'; cases hcs'; exact ht rfl
          have h2' : W2.heap[gb]? = W1.heap[gb]? := HK'.out.2 gb (heap_lt HGB1.out) (hne _ _ _ HGB1.out (by decide))
          have h4' : W2.heap[wx.heap.size]? = W1.heap[wx.heap.size]? := HK'.out.2 _ (heap_lt HBS1.out) (hne _ _ _ HBS1.out (by decide))
          have hb12 : Below w.heap.size W1 W2 := below_of_kept HB1.out HB'.out HK'.out hvn (Nat.le_trans hszW HK1.out.1)
          have hj2 := HACT.out.stable _ _ _ HJ1.out hb12 (fun k ⟨cs, hk⟩ => HK'.out.2 k (heap_lt hk) (hne _ _ _ hk (by decide)))
          rw [List.append_assoc] at hj2
          refine ⟨(ActK.from_ HK1.out (by omega)).trans (keepsFrom_kept HK'.out hcells), ⟨below_between H3.out HB'.out (Nat.le_trans HK1.out.1 HK'.out.1), h4'.trans (HBS1.out.trans H4.out.symm)⟩, ⟨⟨?_, h2'.trans HGB1.out, h4'.trans HBS1.out⟩, ⟨HB'.out, VisS.bef (VisS.act H5.out HK1.out) HK'.out⟩, ?_⟩⟩
          · rw [foldB_snoc]; exact (Own1.of_R0 (t := 4) HR'.out).raise HVLL.out
          · rw [visP_snoc]; exact hj2
        case done =>
          rintro D ys W hD hys ⟨⟨h1, h2, h4⟩, ⟨h3, h5⟩, h6⟩ hK2
          subst hA
          have hown : ∀ b, b < B.length → Own1 1 W w.heap.size (V 1 b) (rowN R (O b)) := fun b hb => VisS.own h5 (HOWNd.out b hb) (by decide) (fun k hk e => by have h7 := HVLL.out k e; have h8 := HVLT.out b hb k hk; omega)
          have hk3 := VisS.blk h5 HK3d.out (by decide) hg3w (fun e => by have h7 := HVLL.out g3 e; omega)
          have hgo := VisS.blk h5 HGOd.out (by decide) hgow (fun e => by obtain ⟨cs, hcs⟩ := HVLd.out.cells go_ e; rw [HGOd.out] at hcs; injection hcs with h7; injection h7 with _ h8 _; exact absurd h8 (by decide))
          have hmk := (VisS.marks h5 HVLd.out HMKd.out).cons (Nat.le_trans (by omega) hD) hK2 (fun E hE e => by have := heap_lt (HMKd.out.2 E hE).2; omega)
          have hjf : J (visL B O (i + 1)) W := by
            rw [visL_succ, ← HY.out, ← HM1.out, ← visP_all i m1 hys]; exact h6
          have HOWNf := Lib.hid hown
          have HK3f := Lib.hid hk3
          have HGOf := Lib.hid hgo
          have HMKf := Lib.hid hmk
          have HJf := Lib.hid hjf
          have HBf := Lib.hid h3
          have HSf := Lib.hid (HACT.out.size _ _ h6)
          clear h1 h2 h4 h3 h5 h6 hys hown hk3 hgo hmk hjf hK2
          dsimp only
          go_wp2
          refine HHK.out _ _ (Handed.intro (B.length - (i + 1)) (by have := HGK.out; omega) (HJJ.out _ _ _ ⟨D :: Ds, i + 1, by omega, by apply FrV.intro, HMKf.out, HK3f.out, HGOf.out, HOWNf.out, HJf.out, HBf.out, HSf.out, rfl⟩))
        case stop =>
          rintro D c pre W _ _ h _
          exact h.elim
    · have e : i = B.length := by omega
      subst e
      go_wp2
      refine (show retPost Fence.wide 9 Try.prog Try.f47 _ .ret _ _ from ret_marks (base := w.heap.size) HMK.out ?_)
      intro w8 hb8 hk8
      refine ⟨_, results_none rfl _ _ _, I, O, rfl, HSI.out, ?_, HBW.out.trans (hb8.mono HB0.out.size)⟩
      refine HACT.out.stable _ _ _ HJ.out hb8 (fun k ⟨cs, hk⟩ => hk8 k fun D hD e => ?_)
      subst e
      rw [(HMK.out.2 _ hD).2] at hk
      cases hk
end Go.Proofs.Ythgodpmahdnnjaa
end
section
namespace Go.Proofs.Ythgodpmahdnnjaa.Two
section
variable {P : Program} {md : Region.Mode} {ops : Array Oper} {Q : Exit → Act → World → Prop} {S : World → Prop} {g n : Nat}
def wpTwo (P : Program) (md : Region.Mode) (ops : Array Oper) (Q : Exit → Act → World → Prop) (S : World → Prop) (g n : Nat) : Nat → Array Bool → Act → World → Prop
  | 0, listed, a, w => (∀ j ∈ Region.ready md ops listed, n ≤ j) ∧ wpAny P md ops Q g listed a w
  | f + 1, listed, a, w => Region.ready md ops listed ≠ [] ∧ ∀ i ∈ Region.ready md ops listed, wpOp P ops Q i (fun a' w' => S w' ∧ wpTwo P md ops Q S g n f (listed.setIfInBounds i true) a' w') a w
theorem wpAny_of_two : ∀ (f : Nat) (listed : Array Bool) (a : Act) (w : World), wpTwo P md ops Q S g n f listed a w → wpAny P md ops Q (f + g) listed a w
  | 0, _, _, _, h => by rw [Nat.zero_add]; exact h.2
  | f + 1, _, _, _, h => by
    rw [show f + 1 + g = (f + g) + 1 by omega]
    exact ⟨fun h0 => absurd h0 h.1, fun i hi => wpOp_mono (fun a' w' h' => wpAny_of_two f _ a' w' h'.2) (h.2 i hi)⟩
def waitsT (md : Region.Mode) (ops : Array Oper) : Nat → Nat → Nat → Bool
  | 0, j, i => Region.waitsFor md ops j i
  | f + 1, j, i => Region.waitsFor md ops j i || (List.range ops.size).any fun k => Region.waitsFor md ops j k && waitsT md ops f k i
def Closed (md : Region.Mode) (ops : Array Oper) (listed : Array Bool) : Prop := ∀ k ok, listed.getD k false = true → ops[k]? = some ok → ∀ e ∈ ok.after, Region.binds md e = true → listed.getD e.on false = true
def closedB (md : Region.Mode) (ops : Array Oper) (listed : Array Bool) : Bool := (List.range ops.size).all fun k => !(listed.getD k false) || match ops[k]? with
  | none => true
  | some o => o.after.all fun e => !(Region.binds md e) || listed.getD e.on false
theorem closed_of {listed : Array Bool} (h : closedB md ops listed = true) : Closed md ops listed := by
  intro k ok hk hok e he hb
  have h1 := List.all_eq_true.1 h k (List.mem_range.2 (Array.getElem?_eq_some_iff.1 hok).1)
  rw [hok, hk] at h1
  simp only [Bool.not_true, Bool.false_or] at h1
  have h2 := Array.all_eq_true'.1 h1 e he
  rw [hb] at h2
  simpa using h2
theorem waitsT_spec {listed : Array Bool} (hc : Closed md ops listed) : ∀ (f j i : Nat), waitsT md ops f j i = true → (∀ oj, ops[j]? = some oj → ∀ e ∈ oj.after, Region.binds md e = true → listed.getD e.on false = true) → listed.getD i false = true
  | 0, j, i, h, hj => by
    obtain ⟨oj, hoj, e, he, hb, heq⟩ := Region.waitsFor_spec h
    rw [← heq]; exact hj oj hoj e he hb
  | f + 1, j, i, h, hj => by
    unfold waitsT at h
    rw [Bool.or_eq_true] at h
    rcases h with h | h
    · obtain ⟨oj, hoj, e, he, hb, heq⟩ := Region.waitsFor_spec h
      rw [← heq]; exact hj oj hoj e he hb
    · obtain ⟨k, _, hk⟩ := List.any_eq_true.1 h
      rw [Bool.and_eq_true] at hk
      obtain ⟨oj, hoj, e, he, hb, heq⟩ := Region.waitsFor_spec hk.1
      exact waitsT_spec hc f k i hk.2 fun ok hok => hc k ok (heq ▸ hj oj hoj e he hb) hok
def waits (md : Region.Mode) (ops : Array Oper) (n : Nat) : Bool := (List.range ops.size).all fun t => decide (t < n) || (List.range n).all fun i => waitsT md ops 5 t i
theorem waits_spec (h : waits md ops n = true) {t i : Nat} (ht : n ≤ t) (hts : t < ops.size) (hi : i < n) : waitsT md ops 5 t i = true := by
  have h1 := List.all_eq_true.1 h t (List.mem_range.2 hts)
  rw [Bool.or_eq_true, decide_eq_true_eq] at h1
  rcases h1 with h1 | h1
  · omega
  · exact List.all_eq_true.1 h1 i (List.mem_range.2 hi)
theorem closed_set {listed : Array Bool} {j : Nat} (hc : Closed md ops listed) (hj : j ∈ Region.ready md ops listed) : Closed md ops (listed.setIfInBounds j true) := by
  intro k ok hk hok e he hb
  by_cases hkj : j = k
  · subst hkj
    obtain ⟨_, oj, hoj, hall⟩ := mem_ready.1 hj
    obtain rfl : oj = ok := Option.some.inj (hoj.symm.trans hok)
    exact getD_set_true (hall e he hb)
  · rw [getD_set_ne false hkj] at hk
    exact getD_set_true (hc k ok hk hok e he hb)
theorem two_first {i : Nat} {oi : Oper} {v : Value} (hi : ops[i]? = some oi) (hsel : ∀ (j : Nat) (o : Oper) cs b, ops[j]? = some o → o.op ≠ .select cs b)
    (hQ : ∀ c a w, Q (.panic c) (a.put oi.dst v) w → Q (.panic c) a w) (hin : i < n) (hw : waits md ops n = true) :
    ∀ (f : Nat) (listed : Array Bool) (a : Act) (w : World), Closed md ops listed →
      (∀ j oj, ops[j]? = some oj → j ≠ i → listed.getD j true = false → (∀ e ∈ oj.after, Region.binds md e = true → e.on ≠ i) → oi.apart ops oj = true) →
      i ∈ Region.ready md ops listed → YieldsIf P ops S oi v a → S w →
      wpTwo P md ops Q S g n f (listed.setIfInBounds i true) (a.put oi.dst v) w → wpTwo P md ops Q S g n (f + 1) listed a w := by
  have hnot : ∀ (listed : Array Bool) (j : Nat), i ∈ Region.ready md ops listed → j ∈ Region.ready md ops listed → ∀ oj, ops[j]? = some oj → ∀ e ∈ oj.after, Region.binds md e = true → e.on ≠ i := by
    intro listed j hr hj oj hoj e he hb heq
    obtain ⟨_, oj', hoj', hall⟩ := mem_ready.1 hj
    obtain rfl : oj = oj' := Option.some.inj (hoj.symm.trans hoj')
    have h1 := hall e he hb
    have h0 := (mem_ready.1 hr).1
    rw [heq] at h1
    rcases Nat.lt_or_ge i listed.size with h' | h'
    · simp [h'] at h0 h1; rw [h0] at h1; cases h1
    · simp [Array.getElem?_eq_none h'] at h1
  intro f
  induction f with
  | zero =>
    intro listed a w hcl _ hr hy hS H
    refine ⟨fun h => (by rw [h] at hr; cases hr), fun j hj => ?_⟩
    by_cases hji : j = i
    · subst hji; exact hy.wpOp hi hS ⟨hS, H⟩
    · have hnj := H.1 j (ready_mono hj hji)
      obtain ⟨_, oj, hoj, hall⟩ := mem_ready.1 hj
      have h1 := waitsT_spec hcl 5 j i (waits_spec hw hnj (Array.getElem?_eq_some_iff.1 hoj).1 hin) (fun oj' hoj' => by obtain rfl : oj = oj' := Option.some.inj (hoj.symm.trans hoj'); exact hall)
      have h0 := (mem_ready.1 hr).1
      rcases Nat.lt_or_ge i listed.size with h' | h'
      · simp [h'] at h0 h1; rw [h0] at h1; cases h1
      · simp [Array.getElem?_eq_none h'] at h1
  | succ f ih =>
    intro listed a w hcl hfree hr hy hS H
    refine ⟨fun h => (by rw [h] at hr; cases hr), fun j hj => ?_⟩
    by_cases hji : j = i
    · subst hji; exact hy.wpOp hi hS ⟨hS, H⟩
    · have h1 := H.2 j (ready_mono hj hji)
      obtain ⟨hjun, oj, hoj, _⟩ := mem_ready.1 hj
      have h2 := wpOp_putIf hoj (hfree j oj hoj hji hjun (hnot listed j hr hj oj hoj)) (fun cs b => hsel i oi cs b hi) (fun cs b => hsel j oj cs b hoj) hQ hy h1
      have hfree' : ∀ k ok, ops[k]? = some ok → k ≠ i → (listed.setIfInBounds j true).getD k true = false →
          (∀ e ∈ ok.after, Region.binds md e = true → e.on ≠ i) → oi.apart ops ok = true := fun k ok hk hki hun hno => by
        refine hfree k ok hk hki ?_ hno
        by_cases hjk : j = k
        · subst hjk; exact hjun
        · rw [getD_set_ne true hjk] at hun; exact hun
      refine wpOp_mono (fun a' w' h3 => ⟨h3.2.1, ih (listed.setIfInBounds j true) a' w' (closed_set hcl hj) hfree' (ready_mono hr (Ne.symm hji)) h3.1 h3.2.1 ?_⟩) h2
      rw [Array.setIfInBounds_comm _ _ hji]
      exact h3.2.2
theorem take (i : Nat) {oi : Oper} {v : Value} {f : Nat} {listed : Array Bool} {a : Act} {w : World} (hi : ops[i]? = some oi) (hy : YieldsIf P ops S oi v a) (hin : decide (i < n) = true) (hw : waits md ops n = true)
    (hs : Region.noSelect ops = true) (hf : Region.free md ops listed i = true) (hcl : closedB md ops listed = true) (hr : (Region.ready md ops listed).contains i = true)
    (hQ : ∀ c a w, Q (.panic c) (a.put oi.dst v) w → Q (.panic c) a w) (hS : S w)
    (h : wpTwo P md ops Q S g n f (listed.setIfInBounds i true) (a.put oi.dst v) w) : wpTwo P md ops Q S g n (f + 1) listed a w :=
  two_first hi (Region.noSelect_spec hs) hQ (of_decide_eq_true hin) hw f listed a w (closed_of hcl) (Region.free_spec hi hf) (by simpa using hr) hy hS h
theorem step (i : Nat) {o : Oper} {f : Nat} {listed : Array Bool} {a : Act} {w : World} (ho : ops[i]? = some o) (hr : Region.ready md ops listed = [i])
    (h : ∀ K' : Act → World → Prop, Shut (∀ a w, S w → (S w → wpTwo P md ops Q S g n f (listed.setIfInBounds i true) a w) → K' a w) → if Region.wanted o (yielded ops a.tmps) = true then Oper.wp P o a w K' Q else K' (a.put o.dst undef) w) : wpTwo P md ops Q S g n (f + 1) listed a w := by
  refine ⟨by rw [hr]; simp, fun j hj => ?_⟩
  rw [hr] at hj
  obtain rfl : j = i := by simpa using hj
  exact wpOp_step ho (fun K' hK => h K' (fun a w hS hW => hK a w ⟨hS, hW hS⟩))
theorem tail {l : List Oper} (hl : ops.toList.drop n = l) {listed : Array Bool} {a : Act} {w : World} (hg : l.length = g) (hn : (Region.ready md ops listed).all (fun j => decide (n ≤ j)) = true) (hB : Region.seqB md ops g n listed = true) (h : wpList P ops Q l a w) :
    wpTwo P md ops Q S g n 0 listed a w := by
  refine ⟨fun j hj => of_decide_eq_true (List.all_eq_true.1 hn j hj), ?_⟩
  subst hg
  refine wpAny_of_seq l n listed a w (fun j => ?_) hB h
  rw [← hl, List.getElem?_drop, Array.getElem?_toList]
theorem region_two {id : Nat} {a : Act} {w : World} (n g : Nat) (S : World → Prop) (hng : ops.size = n + g) (hm : P.follows .mixedOrders = true) (hS : S w.drew)
    (h : S w.drew → wpTwo P .any ops Q S g n n (Array.replicate ops.size false) a w.drew) : (Code.region id ops true).wp P Q a w := by
  refine wp_region_any hm ?_
  rw [hng]
  have := wpAny_of_two n (Array.replicate ops.size false) a w.drew (h hS)
  rw [hng] at this
  exact this
end
end Go.Proofs.Ythgodpmahdnnjaa.Two
end
section
namespace Go.Proofs.Ythgodpmahdnnjaa
open Go.RowKit Go.Proofs.YthgodpmahdnnjaaW.PrintWords Go.Proofs.YthgodpmahdnnjaaW.PrintMore Go.Proofs.Ythgodpmahdnnjaa.H
def lstN (I : Nat → Nat) (i : Nat) : List (List Int) := (List.range i).map fun b => listN (I b)
theorem lstN_length (I : Nat → Nat) (i : Nat) : (lstN I i).length = i := by simp [lstN]
theorem lstN_succ (I : Nat → Nat) (i : Nat) : lstN I (i + 1) = lstN I i ++ [listN (I i)] := by simp [lstN, List.range_succ]
theorem lstN_get (I : Nat → Nat) {i b : Nat} (h : b < i) : (lstN I i).getD b [] = listN (I b) := by simp [lstN, h]
theorem listN_le (m : Nat) : (listN m).length ≤ 40 := by
  unfold listN
  rw [List.length_map]
  exact Nat.le_trans (List.length_filter_le _ _) (by simp)
structure SolT (n base : Nat) (w : World) (gi go_ : Nat) (V : Nat → Nat → Value) (R : Nat) (I O : Nat → Nat) : Prop where
  hi : w.heap[gi]? = some (.cells (rowF (V 0) n) 75 (0, 0))
  ho : w.heap[go_]? = some (.cells (rowF (V 1) n) 75 (0, 0))
  own : ∀ b, b < n → Own1 0 w base (V 0 b) (rowN R (I b)) ∧ Own1 1 w base (V 1 b) (rowN R (O b))
theorem SolT.ty {n base : Nat} {w w1 : World} {gi go_ : Nat} {V : Nat → Nat → Value} {R : Nat} {I O : Nat → Nat} {S : Nat → Prop} {T : TypeId → Prop} (h : SolT n base w gi go_ V R I O) (hk : Kept w w1 S) (hS : TyS w S T) (h1 : ¬ T 75) (h2 : ¬ T 113) : SolT n base w1 gi go_ V R I O :=
  ⟨blk_ty h.hi hk hS h1, blk_ty h.ho hk hS h1, fun b hb => ⟨(h.own b hb).1.ty hk hS h2, (h.own b hb).2.ty hk hS h2⟩⟩
theorem SolT.below {n base : Nat} {w w1 : World} {gi go_ : Nat} {V : Nat → Nat → Value} {R : Nat} {I O : Nat → Nat} (h : SolT n base w gi go_ V R I O) (hb : Below w.heap.size w w1) : SolT n base w1 gi go_ V R I O :=
  h.ty (S := fun _ => False) (T := fun _ => False) (Kept.of_below hb _) (fun _ hk => hk.elim) (fun h => h) (fun h => h)
structure OfW (n base : Nat) (w0 w : World) (gi go_ g6 g5 : Nat) (V : Nat → Nat → Value) (R : Nat) (I O : Nat → Nat) (sI sO : Value) : Prop where
  sol : SolT n base w gi go_ V R I O
  box : w.heap[g6]? = some (.cells #[sI, sO] 30 (0, 0))
  box5 : w.heap[g5]? = some (.cells #[.slice none 0 0, .slice none 0 0] 30 (0, 0))
  below : Below w0.heap.size w0 w
section
variable {n base : Nat} {w0 w w1 : World} {gi go_ g6 g5 : Nat} {V : Nat → Nat → Value} {R : Nat} {I O : Nat → Nat} {sI sO : Value}
theorem OfW.step (h : OfW n base w0 w gi go_ g6 g5 V R I O sI sO) (hb : Below w.heap.size w w1) : OfW n base w0 w1 gi go_ g6 g5 V R I O sI sO :=
  ⟨h.sol.below hb, heap_below h.box hb, heap_below h.box5 hb, h.below.trans (hb.mono h.below.size)⟩
theorem app_kept {e : TypeId} {v : Value} {k : Nat} {xs : List Value} (h : w.ownsRow base e 1 v k xs) (hg : w.grownBy w1 v.ownBlock) : Kept w w1 (fun k => v.ownBlock = some k) ∧ TyS w (fun k => v.ownBlock = some k) (fun t => t = e) :=
  ⟨Kept.of_grown hg (Kept.refl _ _) (fun k hk => .inl hk), fun k hk _ => by obtain ⟨cs, hcs⟩ := row_cells h k hk; exact ⟨cs, _, hcs, rfl⟩⟩
theorem OfW.app {v : Value} {k : Nat} {xs : List Value} (hb : w0.heap.size ≤ base) (h : OfW n base w0 w gi go_ g6 g5 V R I O sI sO) (ho : w.ownsRow base 39 1 v k xs) (hg : w.grownBy w1 v.ownBlock) : OfW n base w0 w1 gi go_ g6 g5 V R I O sI sO := by
  obtain ⟨hk, hS⟩ := app_kept ho hg
  exact ⟨h.sol.ty hk hS (by decide) (by decide), blk_ty h.box hk hS (by decide), blk_ty h.box5 hk hS (by decide), h.below.grown hg h.below.size (fun j hj => Nat.le_trans hb (ho.lt j hj).1)⟩
theorem OfW.cells (h : OfW n base w0 w gi go_ g6 g5 V R I O sI sO) {i : Nat} (hi : i < n) : w.cell? ⟨gi, i, none⟩ = some (V 0 i) ∧ w.cell? ⟨go_, i, none⟩ = some (V 1 i) ∧ w.cell? ⟨g6, 0, none⟩ = some sI ∧ w.cell? ⟨g6, 1, none⟩ = some sO ∧ w.frozen? ⟨g6, 0, none⟩ = false ∧ w.frozen? ⟨g6, 1, none⟩ = false :=
  ⟨(cell_of_row h.sol.hi (rowF_get hi)).1, (cell_of_row h.sol.ho (rowF_get hi)).1, (cells2 h.box).1, (cells2 h.box).2, blk_frozen h.box 0, blk_frozen h.box 1⟩
theorem OfW.list0 (h : OfW n base w0 w gi go_ g6 g5 V R I O sI sO) {i : Nat} (hi : i < n) (hR : R ≤ 40) (hm : I i < 2 ^ R) {A : Option Addr} {c : Nat} (e : V 0 i = .slice A (rowN R (I i)).length c) :
    Calls Try.prog 37 #[.slice A (rowN R (I i)).length c] w fun e w' => ∃ v0_ : Value, e = .returned (v0_) ∧ Kd.R (Kd.int .i64) 3 w' w.heap.size (fun _ => True) v0_ (listN (I i)) ∧ Below w.heap.size w w' := by
  have h1 := (h.sol.own i hi).1
  rw [e] at h1
  obtain ⟨_, hl, hC⟩ := Kd.R_reads' (h1.R0 (t := 0) (ok := fun _ => True) (fun _ _ => trivial))
  exact liveness_set_list.calls 70 A c (rowN R (I i)) _ w hC hl (list_f hR hm (Nat.le_refl _))
theorem OfW.list1 (h : OfW n base w0 w gi go_ g6 g5 V R I O sI sO) {i : Nat} (hi : i < n) (hR : R ≤ 40) (hm : O i < 2 ^ R) {A : Option Addr} {c : Nat} (e : V 1 i = .slice A (rowN R (O i)).length c) :
    Calls Try.prog 37 #[.slice A (rowN R (O i)).length c] w fun e w' => ∃ v0_ : Value, e = .returned (v0_) ∧ Kd.R (Kd.int .i64) 3 w' w.heap.size (fun _ => True) v0_ (listN (O i)) ∧ Below w.heap.size w w' := by
  have h1 := (h.sol.own i hi).2
  rw [e] at h1
  obtain ⟨_, hl, hC⟩ := Kd.R_reads' (h1.R0 (t := 1) (ok := fun _ => True) (fun _ _ => trivial))
  exact liveness_set_list.calls 70 A c (rowN R (O i)) _ w hC hl (list_f hR hm (Nat.le_refl _))
theorem step_rows {ops : Array Oper} {o : Oper} {a : Act} {K : Act → World → Prop} {Q : Exit → Act → World → Prop} {E : Prop} {w8 : World} {i : Nat} {xs : List Value} (v x : Value) (hgd : o.guard = none) (s y : Operand)
    (ho : o.op = .call { callee := .builtin .append, args := #[s, y], argTypes := #[28, 28] }) (hs : a.eval s = v) (hx : a.eval y = .slice (some ⟨w8.heap.size, 0, none⟩) 1 1)
    (hown : w8.ownsRow base 39 1 v i xs) (h1 : x.oneCell' = true) (hi : i ≤ 1000) (hb : base ≤ w8.heap.size)
    (h : ∀ g cap w', w'.ownsRow base 39 1 (.slice (some ⟨g, 0, none⟩) (i + 1) cap) (i + 1) (xs ++ [x]) → w8.grownBy w' v.ownBlock → (v.ownBlock = some g ∨ w8.heap.size ≤ g) → K (a.put o.dst (.slice (some ⟨g, 0, none⟩) (i + 1) cap)) w') :
    if Region.wanted o (yielded ops a.tmps) = true then Oper.wp Try.prog o a (w8.alloc (.cells #[x] 39)) K Q else E := by
  obtain ⟨i0, hi0, hz0, hz1, hz2⟩ := info_parts (show (Try.prog.info? 39).map (fun i => (i.zero, i.size, i.bytes)) = some (some (.slice none 0 0), 1, 24) by kernel_rfl)
  have hsz : (w8.alloc (.cells #[x] 39)).heap.size = w8.heap.size + 1 := alloc_size1 _ _
  refine step_append_lies _ hgd s y 28 ho base 39 i0 (.slice none 0 0) 1 24 Try.underlying28 hi0 hz0 hz1 hz2 rfl (by decide) v i xs hs (hown.alloc _) ⟨w8.heap.size, 0, none⟩ 1 1 [x] hx rfl
    (World.news_of_block (cs := #[x]) (World.alloc_heap_new w8 _)) (fun u hu => by rw [List.mem_singleton.1 hu]; exact h1) (by decide) (by simp [maxLen]; omega) (by omega) (by omega) _ rfl ?_
  intro g cap w' ho' hg' hat _
  refine h g cap w' ho' ⟨hg'.os, hg'.tape, hg'.output, by have := hg'.size; omega, fun k hk hne => (hg'.block k (by omega) hne).trans (Below.heap_alloc w8 _ k hk)⟩ ?_
  rcases hat with hat | hat
  · exact .inl hat
  · right; rw [hat, hsz]; omega
theorem rows_in {w w1 : World} {v : Value} {i : Nat} {xs : List Value} (h : w.ownsRow base 39 1 v i xs) (hb : Below w.heap.size w w1) : w1.ownsRow base 39 1 v i xs := own_move h fun k hk => hb.block k (h.lt k hk).2
theorem of_leaf {wo w8 w9 w10 w11 : World} {i g9 c9 g11 c11 : Nat} {xsI xsO : List Value} {r8 r10 : Value} (hg5w : w0.heap.size ≤ g6) (hne : g5 ≠ g6) (hbw : w0.heap.size ≤ base)
    (hxl : xsI.length = i) (hyl : xsO.length = i) (hoI : wo.ownsRow base 39 1 sI i xsI) (hoO : wo.ownsRow base 39 1 sO i xsO)
    (hxI : ∀ j, j < i → Own1 3 wo base (xsI.getD j undef) ((lstN I i).getD j [])) (hxO : ∀ j, j < i → Own1 3 wo base (xsO.getD j undef) ((lstN O i).getD j [])) (hbase : base ≤ wo.heap.size)
    (hsep : ∀ k, sI.ownBlock = some k → sO.ownBlock ≠ some k) (hb8 : Below wo.heap.size wo w8) (hr8 : Own1 3 w8 wo.heap.size r8 (listN (I i)))
    (hg9 : w8.grownBy w9 sI.ownBlock) (ho9 : w9.ownsRow base 39 1 (.slice (some ⟨g9, 0, none⟩) (i + 1) c9) (i + 1) (xsI ++ [r8])) (ha9 : sI.ownBlock = some g9 ∨ w8.heap.size ≤ g9)
    (hb10 : Below w9.heap.size w9 w10) (hr10 : Own1 3 w10 w9.heap.size r10 (listN (O i)))
    (hg11 : w10.grownBy w11 sO.ownBlock) (ho11 : w11.ownsRow base 39 1 (.slice (some ⟨g11, 0, none⟩) (i + 1) c11) (i + 1) (xsO ++ [r10])) (ha11 : sO.ownBlock = some g11 ∨ w10.heap.size ≤ g11)
    (hW11 : OfW n base w0 w11 gi go_ g6 g5 V R I O sI sO) :
    OfW n base w0 ((w11.setCell ⟨g6, 0, none⟩ (.slice (some ⟨g9, 0, none⟩) (i + 1) c9)).setCell ⟨g6, 1, none⟩ (.slice (some ⟨g11, 0, none⟩) (i + 1) c11)) gi go_ g6 g5 V R I O (.slice (some ⟨g9, 0, none⟩) (i + 1) c9) (.slice (some ⟨g11, 0, none⟩) (i + 1) c11) ∧
    RowsOf ((w11.setCell ⟨g6, 0, none⟩ (.slice (some ⟨g9, 0, none⟩) (i + 1) c9)).setCell ⟨g6, 1, none⟩ (.slice (some ⟨g11, 0, none⟩) (i + 1) c11)) base (.slice (some ⟨g9, 0, none⟩) (i + 1) c9) (lstN I (i + 1)) ∧
    RowsOf ((w11.setCell ⟨g6, 0, none⟩ (.slice (some ⟨g9, 0, none⟩) (i + 1) c9)).setCell ⟨g6, 1, none⟩ (.slice (some ⟨g11, 0, none⟩) (i + 1) c11)) base (.slice (some ⟨g11, 0, none⟩) (i + 1) c11) (lstN O (i + 1)) ∧
    (∀ k, (Value.slice (some ⟨g9, 0, none⟩) (i + 1) c9).ownBlock = some k → (Value.slice (some ⟨g11, 0, none⟩) (i + 1) c11).ownBlock ≠ some k) := by
  have hlO := hoO.lt
  have hlI := hoI.lt
  have hs8 := hb8.size
  have hs9 := hg9.size
  have hs10 := hb10.size
  have hoI8 := rows_in hoI hb8
  have hxI8 : ∀ j, j < (lstN I i).length → Own1 3 w8 base (xsI.getD j undef) ((lstN I i).getD j []) := fun j hj => (hxI j (by rwa [lstN_length] at hj)).kept (Kept.of_below hb8 (fun _ => False)) (fun _ _ h => h)
  have hR9 : RowsOf w9 base (.slice (some ⟨g9, 0, none⟩) (i + 1) c9) (lstN I (i + 1)) := by
    rw [lstN_succ]
    exact RowsOf.snoc (by rw [lstN_length]; exact hxl) (by rw [lstN_length]; exact hoI8) hxI8 (hr8.lower hbase) hg9 (by rw [lstN_length]; exact ho9)
  have hR10 := hR9.below hb10
  have hg9O : ¬ sO.ownBlock = some g9 := fun e => by
    rcases ha9 with h | h
    · exact hsep g9 h e
    · have := hlO g9 e; omega
  obtain ⟨hk9, hS9⟩ := app_kept hoI8 hg9
  have hoO9 : w9.ownsRow base 39 1 sO i xsO := own_move (rows_in hoO hb8) fun k hk => hg9.block k (by have := hlO k hk; omega) (fun e => hsep k e.symm hk)
  have hoO10 := rows_in hoO9 hb10
  have hxO10 : ∀ j, j < (lstN O i).length → Own1 3 w10 base (xsO.getD j undef) ((lstN O i).getD j []) := fun j hj =>
    (((hxO j (by rwa [lstN_length] at hj)).kept (Kept.of_below hb8 (fun _ => False)) (fun _ _ h => h)).ty hk9 hS9 (by decide)).kept (Kept.of_below hb10 (fun _ => False)) (fun _ _ h => h)
  have hR11 : RowsOf w11 base (.slice (some ⟨g11, 0, none⟩) (i + 1) c11) (lstN O (i + 1)) := by
    rw [lstN_succ]
    exact RowsOf.snoc (by rw [lstN_length]; exact hyl) (by rw [lstN_length]; exact hoO10) hxO10 (hr10.lower (by omega)) hg11 (by rw [lstN_length]; exact ho11)
  obtain ⟨hk11, hS11⟩ := app_kept hoO10 hg11
  have hRI11 : RowsOf w11 base (.slice (some ⟨g9, 0, none⟩) (i + 1) c9) (lstN I (i + 1)) := hR10.ty hk11 hS11 (by decide) (fun k hk => by simp [Value.ownBlock] at hk; subst hk; exact hg9O)
  have hl9 : g9 < w9.heap.size := (hR9.lt g9 rfl).2
  have hkf : Kept w11 ((w11.setCell ⟨g6, 0, none⟩ (.slice (some ⟨g9, 0, none⟩) (i + 1) c9)).setCell ⟨g6, 1, none⟩ (.slice (some ⟨g11, 0, none⟩) (i + 1) c11)) (fun k => k = g6) :=
    (kept_set (S := fun k => k = g6) rfl 0 _).then_ (kept_set (S := fun k => k = g6) rfl 1 _) (fun k hk => .inl hk)
  have hSf : TyS w11 (fun k => k = g6) (fun t => t = 30) := fun k hk _ => by subst hk; exact ⟨_, _, hW11.box, rfl⟩
  have hnb : ∀ {v : Value} {ls : List (List Int)}, RowsOf w11 base v ls → ∀ k, v.ownBlock = some k → ¬ k = g6 := fun h k hk e => by
    subst e
    obtain ⟨cs, hcs⟩ := h.cells _ hk
    rw [hW11.box] at hcs
    injection hcs with h1
    injection h1 with _ h2 _
    exact absurd h2 (by decide)
  refine ⟨⟨hW11.sol.ty hkf hSf (by decide) (by decide), blk_put (blk_put hW11.box 0 _ rfl) 1 _ rfl, (hkf.2 g5 (heap_lt hW11.box5) hne).trans hW11.box5, (hW11.below.setCell (p := ⟨g6, 0, none⟩) hg5w _).setCell (p := ⟨g6, 1, none⟩) hg5w _⟩, hRI11.ty hkf hSf (by decide) (hnb hRI11), hR11.ty hkf hSf (by decide) (hnb hR11), fun k hk => ?_⟩
  simp [Value.ownBlock] at hk ⊢
  subst hk
  rcases ha11 with h | h
  · exact fun e => hg9O (by rw [h, e])
  · omega
end
set_option maxHeartbeats 8000000 in
set_option maxRecDepth 100000 in
theorem Of_calls (nm : ByteArray) (R : Int) (hR : R ≤ 30) (A2 : Option Addr) (c2 n2 : Nat) (A3 : Option Addr) (c3 : Nat) (B : List S43) (w : World)
    (hC3 : k43.C w A3 B.length B) (hc3 : B.length ≤ c3) (hn : B.length ≤ 30) (hcode : ∀ x ∈ B, x.f0.length ≤ 1000) :
    Calls Try.prog 10 #[.agg #[.string nm, .int .i64 R, .slice A2 n2 c2, .slice A3 B.length c3]] w
      fun e w' => ((wfB R B = false ∧ e = .returned (.tuple #[.agg #[.slice none 0 0, .slice none 0 0], .int .i64 3])) ∨
        (∃ (N : Nat) (vi vo : Value) (I O : Nat → Nat), R = N ∧ OkF N B ∧ e = .returned (.tuple #[.agg #[vi, vo], .int .i64 0]) ∧ SI N B I O [] ∧ RowsOf w' w.heap.size vi (lstN I B.length) ∧ RowsOf w' w.heap.size vo (lstN O B.length))) ∧ Below w.heap.size w w' := by
  have hn1 : B.length ≤ 1000 := by omega
  have HC3 := Lib.hid hC3
  have HCD := Lib.hid hcode
  clear hC3 hcode
  obtain ⟨o, ho⟩ : ∃ o, o = wfB R B := ⟨_, rfl⟩
  rw [← ho]
  have HO := Lib.hid ho
  clear ho
  cases o with
  | false =>
    go_enter Try.func10, Try.ntmps10
    go_wp2_with (first
      | ((with_reducible refine gate_dst (N := 1) rfl ?_); refine box_event ?hg (N := 1) ?hd (cs := #[.string nm, .int .i64 R, .slice A2 n2 c2, .slice A3 B.length c3]) (t := 25) ?hr ?_; (case hd => rfl); (case hg => rfl); (case hr => first | (go_simp; done) | (go_simp; rfl)); intro g hg w3 hbox hbw; have BK := Lib.hid hbox; have HBW := Lib.hid hbw; clear hbox hbw; have HG := Lib.hid hg; clear hg)
      | ((with_reducible refine gate_dst (N := 2) rfl ?_); refine box_event ?hg (N := 2) ?hd (cs := #[.slice none 0 0, .slice none 0 0]) (t := 30) ?hr ?_; (case hd => rfl); (case hg => rfl); (case hr => first | (go_simp; done) | (go_simp; rfl)); intro g5 hg5 w5 hbox5 hbw5; have BK5 := Lib.hid hbox5; have HBW5 := Lib.hid hbw5; have BKA := Lib.hid (heap_below BK.out hbw5); clear hbox5 hbw5; obtain ⟨z0, z1, z2, z3⟩ := cells4 BKA.out; have HG5 := Lib.hid hg5; clear hg5)
      | (go_at_call 35; refine (wf_calls nm R A2 c2 n2 A3 c3 B _ (Kd.C_below (Kd.C_below HC3.out HBW.out) HBW5.out) hc3 hn1 HCD.out).mono ?_; rw [← HO.out]; rintro e w6 ⟨rfl, hb6⟩; have HB6 := Lib.hid hb6; have BKC := Lib.hid (heap_below BK5.out hb6); clear hb6 z0 z1 z2 z3; obtain ⟨y0, y1⟩ := cells2 BKC.out; have f0 := blk_frozen BKC.out 0; have f1 := blk_frozen BKC.out 1)
      | fail)
    have hg5l : w.heap.size ≤ g5 := by rw [HG5.out]; exact HBW.out.size
    have hb06 : Below w.heap.size w w6 := HBW.out.trans ((HBW5.out.trans (HB6.out.mono HBW5.out.size)).mono HBW.out.size)
    have hk : ((w6.setCell ⟨g5, 0, none⟩ (.slice none 0 0)).setCell ⟨g5, 1, none⟩ (.slice none 0 0)).heap[g5]? = some (.cells #[.slice none 0 0, .slice none 0 0] 30 (0, 0)) := blk_put (blk_put BKC.out 0 _ rfl) 1 _ rfl
    have HX := Lib.hid ((hb06.setCell (p := ⟨g5, 0, none⟩) hg5l (.slice none 0 0)).setCell (p := ⟨g5, 1, none⟩) hg5l (.slice none 0 0))
    obtain ⟨wz, hwz⟩ : ∃ wz, wz = ((w6.setCell ⟨g5, 0, none⟩ (.slice none 0 0)).setCell ⟨g5, 1, none⟩ (.slice none 0 0)) := ⟨_, rfl⟩
    rw [← hwz] at hk HX ⊢
    clear hwz y0 y1 f0 f1
    obtain ⟨y0, y1⟩ := cells2 hk
    (try simp only [Exit.inBlock, Exit.then])
    refine bodyPost_ret (v := .tuple #[.agg #[.slice none 0 0, .slice none 0 0], .int .i64 3]) ?hr rfl ?_
    case hr =>
      unfold results
      rw [show Try.f10.results = #[.cell 2 30, .tmp 3] from rfl]
      simp
      go_simp
    exact ⟨.inl ⟨trivial, rfl⟩, HX.out⟩
  | true =>
    obtain ⟨N, rfl, hN, hF⟩ := (wfB_iff R B).1 HO.out.symm
    have HF := Lib.hid hF
    have hNR : N ≤ 30 := by omega
    clear hF
    go_enter Try.func10, Try.ntmps10
    go_upto_region 6 with (first
      | ((with_reducible refine gate_dst (N := 1) rfl ?_); refine box_event ?hg (N := 1) ?hd (cs := #[.string nm, .int .i64 N, .slice A2 n2 c2, .slice A3 B.length c3]) (t := 25) ?hr ?_; (case hd => rfl); (case hg => rfl); (case hr => first | (go_simp; done) | (go_simp; rfl)); intro g hg w3 hbox hbw; have BK := Lib.hid hbox; have HBW := Lib.hid hbw; clear hbox hbw; have HG := Lib.hid hg; clear hg)
      | ((with_reducible refine gate_dst (N := 2) rfl ?_); refine box_event ?hg (N := 2) ?hd (cs := #[.slice none 0 0, .slice none 0 0]) (t := 30) ?hr ?_; (case hd => rfl); (case hg => rfl); (case hr => first | (go_simp; done) | (go_simp; rfl)); intro g5 hg5 w5 hbox5 hbw5; have BK5 := Lib.hid hbox5; have HBW5 := Lib.hid hbw5; have BKA := Lib.hid (heap_below BK.out hbw5); clear hbox5 hbw5; obtain ⟨z0, z1, z2, z3⟩ := cells4 BKA.out; have HG5 := Lib.hid hg5; clear hg5)
      | (go_at_call 35; refine (wf_calls nm N A2 c2 n2 A3 c3 B _ (Kd.C_below (Kd.C_below HC3.out HBW.out) HBW5.out) hc3 hn1 HCD.out).mono ?_; rw [← HO.out]; rintro e w6 ⟨rfl, hb6⟩; have HB6 := Lib.hid hb6; have BKB := Lib.hid (heap_below BKA.out hb6); have BKC := Lib.hid (heap_below BK5.out hb6); clear hb6 z0 z1 z2 z3; obtain ⟨z0, z1, z2, z3⟩ := cells4 BKB.out)
      | (go_at_call 36; refine (solve_calls nm N hNR A2 c2 n2 A3 c3 B _ (Kd.C_below (Kd.C_below (Kd.C_below HC3.out HBW.out) HBW5.out) HB6.out) hc3 hn HCD.out HF.out).mono ?_; rintro e w7 ⟨gi, go_, V, I, O, rfl, hsi, hown, hgi, hgo, hb7, _, _⟩; have HSI := Lib.hid hsi; have HOWN := Lib.hid hown; have HGI := Lib.hid hgi; have HGO := Lib.hid hgo; have HB7 := Lib.hid hb7; clear hsi hown hgi hgo hb7 z0 z1 z2 z3)
      | ((with_reducible refine gate_dst (N := 6) rfl ?_); refine box_event ?hg (N := 6) ?hd (cs := #[.slice none 0 0, .slice none 0 0]) (t := 30) ?hr ?_; (case hd => rfl); (case hg => rfl); (case hr => first | (go_simp; done) | (go_simp; rfl)); intro g6 hg6 w8 hbox6 hbw6; have BK6 := Lib.hid hbox6; have HBW6 := Lib.hid hbw6; have HG6 := Lib.hid hg6; clear hbox6 hbw6 hg6)
      | fail)
    have h07 : w.heap.size ≤ w6.heap.size := (HBW.out.trans ((HBW5.out.trans (HB6.out.mono HBW5.out.size)).mono HBW.out.size)).size
    have hw5 : w.heap.size ≤ w5.heap.size := (HBW.out.trans (HBW5.out.mono HBW.out.size)).size
    have hb08 : Below w.heap.size w w8 := (HBW.out.trans ((HBW5.out.trans (HB6.out.mono HBW5.out.size)).mono HBW.out.size)).trans ((HB7.out.trans (HBW6.out.mono HB7.out.size)).mono h07)
    have hW0 : OfW B.length w.heap.size w w8 gi go_ g6 g5 V N I O (.slice none 0 0) (.slice none 0 0) :=
      ⟨SolT.below ⟨HGI.out, HGO.out, fun b hb => ⟨(HOWN.out b hb).1.lower h07, (HOWN.out b hb).2.lower h07⟩⟩ HBW6.out, BK6.out, heap_below (heap_below BKC.out HB7.out) HBW6.out, hb08⟩
    have HW0 := Lib.hid hW0
    have hg6w : w.heap.size ≤ g6 := by rw [HG6.out]; exact Nat.le_trans h07 HB7.out.size
    have hg5w : w.heap.size ≤ g5 := by rw [HG5.out]; exact HBW.out.size
    have hg56 : g5 ≠ g6 := by
      have := heap_lt (heap_below BKC.out HB7.out); rw [HG6.out]; omega
    clear hW0 hb08 h07 hw5 HG HG5 HG6 BK BKA BKB BKC BK5 BK6 HBW HBW5 HBW6 HB6 HB7 HGI HGO HOWN
    have HI := Lib.hid (show (Try.prog.info? 39).map (fun i => (i.zero, i.size, i.bytes)) = some (some (.slice none 0 0), 1, 24) by kernel_rfl)
    go_loopg [19] (B.length) (fun k v19 wr => ∃ (i : Nat) (sI sO : Value), i ≤ B.length ∧ k = B.length - i ∧ v19 = .int .i64 i ∧ OfW B.length w.heap.size w wr gi go_ g6 g5 V N I O sI sO ∧ RowsOf wr w.heap.size sI (lstN I i) ∧ RowsOf wr w.heap.size sO (lstN O i) ∧ (∀ k, sI.ownBlock = some k → sO.ownBlock ≠ some k))
    case atStart => exact ⟨0, _, _, Nat.zero_le _, rfl, rfl, HW0.out, RowsOf.nil _ _, RowsOf.nil _ _, fun k hk => by cases hk⟩
    case round =>
      obtain ⟨i, sI, sO, hi, rfl, rfl, hW, hRI, hRO, hsep⟩ := hrel
      obtain ⟨wo, rfl⟩ : ∃ wo, wo = wr := ⟨_, rfl⟩
      have HW := Lib.hid hW
      have HRI := Lib.hid hRI
      have HRO := Lib.hid hRO
      have HSEP := Lib.hid hsep
      clear hW hRI hRO hsep HW0
      by_cases hlt : i < B.length
      · obtain ⟨i0, hi0, hz0, hz1, hz2⟩ := info_parts HI.out
        have HI0 := Lib.hid hi0
        have HZ0 := Lib.hid hz0
        have HZ1 := Lib.hid hz1
        have HZ2 := Lib.hid hz2
        obtain ⟨xsI, hxl, hownI, hxI⟩ := HRI.out
        obtain ⟨xsO, hyl, hownO, hxO⟩ := HRO.out
        rw [lstN_length] at hxl hownI hxI hyl hownO hxO
        have HOWNI := Lib.hid hownI
        have HOWNO := Lib.hid hownO
        have HXI := Lib.hid hxI
        have HXO := Lib.hid hxO
        obtain ⟨Ai, ci, ei, _, _⟩ := Kd.R_reads ((HW.out.sol.own i hlt).1.R0 (t := 0) (ok := fun _ => True) (fun _ _ => trivial))
        obtain ⟨Ao, co, eo, _, _⟩ := Kd.R_reads ((HW.out.sol.own i hlt).2.R0 (t := 1) (ok := fun _ => True) (fun _ _ => trivial))
        have HEI := Lib.hid ei
        have HEO := Lib.hid eo
        have hlI := (HSI.out.lt i hlt).1
        have hlO := (HSI.out.lt i hlt).2
        clear hi0 hz0 hz1 hz2 hownI hownO hxI hxO ei eo
        obtain ⟨q1, q2, y0, y1, fy0, fy1⟩ := HW.out.cells hlt
        rw [HEI.out] at q1
        rw [HEO.out] at q2
        go_upto_region 8 with fail
        have hb : w.heap.size ≤ wo.heap.size := HW.out.below.size
        have hli : i ≤ 1000 := by omega
        have hN40 : N ≤ 40 := by omega
        refine Two.region_two 19 3 (fun w' => w'.cell? ⟨gi, i, none⟩ = some (.slice Ai (rowN N (I i)).length ci) ∧ w'.cell? ⟨go_, i, none⟩ = some (.slice Ao (rowN N (O i)).length co) ∧ w'.cell? ⟨g6, 0, none⟩ = some sI ∧ w'.cell? ⟨g6, 1, none⟩ = some sO) rfl (by kernel_rfl) (⟨by assumption, by assumption, by assumption, by assumption⟩) (fun hHeld => ?_)
        refine Two.take (v := ?_) 0 rfl (Or.inl ⟨by rfl, ?_⟩) rfl (by kernel_rfl) (by kernel_rfl) (by kernel_rfl) (by kernel_rfl) (by kernel_rfl) (fun _ _ _ h => h) (by assumption) ?_
        rotate_left
        · intro w' hSw
          try dsimp only at hSw
          go_simp
          try with_reducible rfl
        try simp only [Act.put, List.setIfInBounds_toArray, List.set_cons_zero, List.set_cons_succ]
        refine Two.take (v := ?_) 1 rfl (Or.inl ⟨by rfl, ?_⟩) rfl (by kernel_rfl) (by kernel_rfl) (by kernel_rfl) (by kernel_rfl) (by kernel_rfl) (fun _ _ _ h => h) (by assumption) ?_
        rotate_left
        · intro w' hSw
          try dsimp only at hSw
          go_simp
          try with_reducible rfl
        try simp only [Act.put, List.setIfInBounds_toArray, List.set_cons_zero, List.set_cons_succ]
        refine Two.take (v := ?_) 2 rfl (Or.inl ⟨by rfl, ?_⟩) rfl (by kernel_rfl) (by kernel_rfl) (by kernel_rfl) (by kernel_rfl) (by kernel_rfl) (fun _ _ _ h => h) (by assumption) ?_
        rotate_left
        · intro w' hSw
          try dsimp only at hSw
          go_simp
          try with_reducible rfl
        try simp only [Act.put, List.setIfInBounds_toArray, List.set_cons_zero, List.set_cons_succ]
        refine Two.take (v := ?_) 3 rfl (Or.inl ⟨by rfl, ?_⟩) rfl (by kernel_rfl) (by kernel_rfl) (by kernel_rfl) (by kernel_rfl) (by kernel_rfl) (fun _ _ _ h => h) (by assumption) ?_
        rotate_left
        · intro w' hSw
          try dsimp only at hSw
          go_simp
          try with_reducible rfl
        try simp only [Act.put, List.setIfInBounds_toArray, List.set_cons_zero, List.set_cons_succ]
        refine Two.take (v := ?_) 4 rfl (Or.inl ⟨by rfl, ?_⟩) rfl (by kernel_rfl) (by kernel_rfl) (by kernel_rfl) (by kernel_rfl) (by kernel_rfl) (fun _ _ _ h => h) (by assumption) ?_
        rotate_left
        · intro w' hSw
          try dsimp only at hSw
          go_simp
          try with_reducible rfl
        try simp only [Act.put, List.setIfInBounds_toArray, List.set_cons_zero, List.set_cons_succ]
        refine Two.take (v := ?_) 5 rfl (Or.inl ⟨by rfl, ?_⟩) rfl (by kernel_rfl) (by kernel_rfl) (by kernel_rfl) (by kernel_rfl) (by kernel_rfl) (fun _ _ _ h => h) (by assumption) ?_
        rotate_left
        · intro w' hSw
          try dsimp only at hSw
          go_simp
          try with_reducible rfl
        try simp only [Act.put, List.setIfInBounds_toArray, List.set_cons_zero, List.set_cons_succ]
        refine Two.take (v := ?_) 9 rfl (Or.inl ⟨by rfl, ?_⟩) rfl (by kernel_rfl) (by kernel_rfl) (by kernel_rfl) (by kernel_rfl) (by kernel_rfl) (fun _ _ _ h => h) (by assumption) ?_
        rotate_left
        · intro w' hSw
          try dsimp only at hSw
          go_simp
          try with_reducible rfl
        try simp only [Act.put, List.setIfInBounds_toArray, List.set_cons_zero, List.set_cons_succ]
        refine Two.take (v := ?_) 10 rfl (Or.inl ⟨by rfl, ?_⟩) rfl (by kernel_rfl) (by kernel_rfl) (by kernel_rfl) (by kernel_rfl) (by kernel_rfl) (fun _ _ _ h => h) (by assumption) ?_
        rotate_left
        · intro w' hSw
          try dsimp only at hSw
          go_simp
          try with_reducible rfl
        try simp only [Act.put, List.setIfInBounds_toArray, List.set_cons_zero, List.set_cons_succ]
        refine Two.take (v := ?_) 11 rfl (Or.inl ⟨by rfl, ?_⟩) rfl (by kernel_rfl) (by kernel_rfl) (by kernel_rfl) (by kernel_rfl) (by kernel_rfl) (fun _ _ _ h => h) (by assumption) ?_
        rotate_left
        · intro w' hSw
          try dsimp only at hSw
          go_simp
          try with_reducible rfl
        try simp only [Act.put, List.setIfInBounds_toArray, List.set_cons_zero, List.set_cons_succ]
        refine Two.take (v := ?_) 12 rfl (Or.inl ⟨by rfl, ?_⟩) rfl (by kernel_rfl) (by kernel_rfl) (by kernel_rfl) (by kernel_rfl) (by kernel_rfl) (fun _ _ _ h => h) (by assumption) ?_
        rotate_left
        · intro w' hSw
          try dsimp only at hSw
          go_simp
          try with_reducible rfl
        try simp only [Act.put, List.setIfInBounds_toArray, List.set_cons_zero, List.set_cons_succ]
        refine Two.take (v := ?_) 13 rfl (Or.inl ⟨by rfl, ?_⟩) rfl (by kernel_rfl) (by kernel_rfl) (by kernel_rfl) (by kernel_rfl) (by kernel_rfl) (fun _ _ _ h => h) (by assumption) ?_
        rotate_left
        · intro w' hSw
          try dsimp only at hSw
          go_simp
          try with_reducible rfl
        try simp only [Act.put, List.setIfInBounds_toArray, List.set_cons_zero, List.set_cons_succ]
        refine Two.take (v := ?_) 14 rfl (Or.inl ⟨by rfl, ?_⟩) rfl (by kernel_rfl) (by kernel_rfl) (by kernel_rfl) (by kernel_rfl) (by kernel_rfl) (fun _ _ _ h => h) (by assumption) ?_
        rotate_left
        · intro w' hSw
          try dsimp only at hSw
          go_simp
          try with_reducible rfl
        try simp only [Act.put, List.setIfInBounds_toArray, List.set_cons_zero, List.set_cons_succ]
        refine Two.step 6 rfl (by kernel_rfl) (fun K hK => ?_)
        go_simp
        go_at_call 37
        refine (OfW.list0 (HW.out.step (Below.refl _ _).drew) hlt hN40 hlI HEI.out).mono ?_
        rintro e w8 ⟨v8, rfl, hR8, hb8⟩
        have hb8' := (Below.refl wo.heap.size wo).drew.trans hb8
        obtain ⟨A8, c8, rfl⟩ := Kd.R_slice hR8
        have HR8 := Lib.hid (Own1.of_R0 (t := 3) hR8)
        have HB8 := Lib.hid hb8'
        have HW8 := Lib.hid (HW.out.step hb8')
        have HO8 := Lib.hid (own_move HOWNI.out (fun k hk => hb8'.block k (HOWNI.out.lt k hk).2))
        clear hR8 hb8 hb8'
        obtain ⟨p1, p2, p3, p4, _, _⟩ := HW8.out.cells hlt
        rw [HEI.out] at p1
        rw [HEO.out] at p2
        have HW8a := Lib.hid (HW8.out.step ((Below.refl _ w8).alloc (Nat.le_refl _) (.cells #[.slice A8 (listN (I i)).length c8] 39)))
        obtain ⟨r1, r2, r3, r4, _, _⟩ := HW8a.out.cells hlt
        rw [HEI.out] at r1
        rw [HEO.out] at r2
        go_wp2_with fail
        refine hK.out _ _ (⟨by assumption, by assumption, by assumption, by assumption⟩) (fun hHeld => ?_)
        clear hK K
        try simp only [Act.put, List.setIfInBounds_toArray, List.set_cons_zero, List.set_cons_succ]
        refine Two.step 7 rfl (by kernel_rfl) (fun K hK => ?_)
        go_simp
        refine hK.out _ _ (⟨by assumption, by assumption, by assumption, by assumption⟩) (fun hHeld => ?_)
        clear hK K
        try simp only [Act.put, List.setIfInBounds_toArray, List.set_cons_zero, List.set_cons_succ]
        refine Two.step 8 rfl (by kernel_rfl) (fun K hK => ?_)
        refine step_rows sI (.slice A8 (listN (I i)).length c8) rfl _ _ rfl rfl rfl HO8.out rfl hli (Nat.le_trans hb HB8.out.size) ?_
        intro g9 c9 w9 hown9 hg9 hat9
        have HW9 := Lib.hid (HW8.out.app (Nat.le_refl _) HO8.out hg9)
        have HO9 := Lib.hid hown9
        have HG9 := Lib.hid hg9
        have HA9 := Lib.hid hat9
        clear hown9 hg9 hat9
        obtain ⟨s1, s2, s3, s4, _, _⟩ := HW9.out.cells hlt
        rw [HEI.out] at s1
        rw [HEO.out] at s2
        refine hK.out _ _ (⟨by assumption, by assumption, by assumption, by assumption⟩) (fun hHeld => ?_)
        clear hK K
        try simp only [Act.put, List.setIfInBounds_toArray, List.set_cons_zero, List.set_cons_succ]
        refine Two.take (v := ?_) 18 rfl (Or.inl ⟨by rfl, ?_⟩) rfl (by kernel_rfl) (by kernel_rfl) (by kernel_rfl) (by kernel_rfl) (by kernel_rfl) (fun _ _ _ h => h) (by assumption) ?_
        rotate_left
        · intro w' hSw
          try dsimp only at hSw
          go_simp
          try with_reducible rfl
        try simp only [Act.put, List.setIfInBounds_toArray, List.set_cons_zero, List.set_cons_succ]
        refine Two.step 15 rfl (by kernel_rfl) (fun K hK => ?_)
        go_simp
        go_at_call 37
        refine (OfW.list1 HW9.out hlt hN40 hlO HEO.out).mono ?_
        rintro e w10 ⟨v10, rfl, hR10, hb10⟩
        obtain ⟨A10, c10, rfl⟩ := Kd.R_slice hR10
        have HR10 := Lib.hid (Own1.of_R0 (t := 3) hR10)
        have HB10 := Lib.hid hb10
        have HW10 := Lib.hid (HW9.out.step hb10)
        have HO10 := Lib.hid (rows_in (own_move (rows_in HOWNO.out HB8.out) fun k hk => HG9.out.block k (Nat.lt_of_lt_of_le (HOWNO.out.lt k hk).2 HB8.out.size) (fun e => HSEP.out k e.symm hk)) hb10)
        clear hR10 hb10
        obtain ⟨t1, t2, t3, t4, _, _⟩ := HW10.out.cells hlt
        rw [HEI.out] at t1
        rw [HEO.out] at t2
        have HW10a := Lib.hid (HW10.out.step ((Below.refl _ w10).alloc (Nat.le_refl _) (.cells #[.slice A10 (listN (O i)).length c10] 39)))
        obtain ⟨n1, n2, n3, n4, _, _⟩ := HW10a.out.cells hlt
        rw [HEI.out] at n1
        rw [HEO.out] at n2
        go_wp2_with fail
        refine hK.out _ _ (⟨by assumption, by assumption, by assumption, by assumption⟩) (fun hHeld => ?_)
        clear hK K
        try simp only [Act.put, List.setIfInBounds_toArray, List.set_cons_zero, List.set_cons_succ]
        refine Two.step 16 rfl (by kernel_rfl) (fun K hK => ?_)
        go_simp
        refine hK.out _ _ (⟨by assumption, by assumption, by assumption, by assumption⟩) (fun hHeld => ?_)
        clear hK K
        try simp only [Act.put, List.setIfInBounds_toArray, List.set_cons_zero, List.set_cons_succ]
        refine Two.step 17 rfl (by kernel_rfl) (fun K hK => ?_)
        refine step_rows sO (.slice A10 (listN (O i)).length c10) rfl _ _ rfl rfl rfl HO10.out rfl hli HW10.out.below.size ?_
        intro g11 c11 w11 hown11 hg11 hat11
        have HW11 := Lib.hid (HW10.out.app (Nat.le_refl _) HO10.out hg11)
        have HO11 := Lib.hid hown11
        have HG11 := Lib.hid hg11
        have HA11 := Lib.hid hat11
        clear hown11 hg11 hat11
        obtain ⟨m1, m2, m3, m4, fm3, fm4⟩ := HW11.out.cells hlt
        rw [HEI.out] at m1
        rw [HEO.out] at m2
        refine hK.out _ _ (⟨by assumption, by assumption, by assumption, by assumption⟩) (fun hHeld => ?_)
        clear hK K
        try simp only [Act.put, List.setIfInBounds_toArray, List.set_cons_zero, List.set_cons_succ]
        refine Two.tail rfl rfl (by kernel_rfl) (by kernel_rfl) ?_
        have hX := of_leaf hg6w hg56 (Nat.le_refl _) hxl hyl HOWNI.out HOWNO.out HXI.out HXO.out hb HSEP.out HB8.out HR8.out HG9.out HO9.out HA9.out HB10.out HR10.out HG11.out HO11.out HA11.out HW11.out
        have HX := Lib.hid hX
        clear hX
        go_wp2_with fail
        go_roundg (B.length - (i + 1))
        case rel => exact ⟨i + 1, _, _, by omega, rfl, by go_num, HX.out.1, HX.out.2.1, HX.out.2.2.1, HX.out.2.2.2⟩
        case measure => omega
      · have e : i = B.length := by omega
        subst e
        obtain ⟨A1, c1, e1, _, _⟩ := HRI.out.C
        obtain ⟨A2', c2', e2, _, _⟩ := HRO.out.C
        subst e1 e2
        obtain ⟨y0, y1⟩ := cells2 HW.out.box
        obtain ⟨x0, x1⟩ := cells2 HW.out.box5
        have fx0 := blk_frozen HW.out.box5 0
        have fx1 := blk_frozen HW.out.box5 1
        go_wp2
        have hk : ((wo.setCell ⟨g5, 0, none⟩ (.slice A1 (lstN I B.length).length c1)).setCell ⟨g5, 1, none⟩ (.slice A2' (lstN O B.length).length c2')).heap[g5]? = some (.cells #[.slice A1 (lstN I B.length).length c1, .slice A2' (lstN O B.length).length c2'] 30 (0, 0)) := blk_put (blk_put HW.out.box5 0 _ rfl) 1 _ rfl
        have hkf : Kept wo ((wo.setCell ⟨g5, 0, none⟩ (.slice A1 (lstN I B.length).length c1)).setCell ⟨g5, 1, none⟩ (.slice A2' (lstN O B.length).length c2')) (fun k => k = g5) :=
          (kept_set (S := fun k => k = g5) rfl 0 _).then_ (kept_set (S := fun k => k = g5) rfl 1 _) (fun k hk => .inl hk)
        have hSf : TyS wo (fun k => k = g5) (fun t => t = 30) := fun k hk _ => by subst hk; exact ⟨_, _, HW.out.box5, rfl⟩
        have hnb : ∀ {v : Value} {ls : List (List Int)}, RowsOf wo w.heap.size v ls → ∀ k, v.ownBlock = some k → ¬ k = g5 := fun h k hkk e => by
          subst e
          obtain ⟨cs, hcs⟩ := h.cells _ hkk
          rw [HW.out.box5] at hcs
          injection hcs with h1
          injection h1 with _ h2 _
          exact absurd h2 (by decide)
        have HX1 := Lib.hid (HRI.out.ty hkf hSf (by decide) (hnb HRI.out))
        have HX2 := Lib.hid (HRO.out.ty hkf hSf (by decide) (hnb HRO.out))
        have HXB := Lib.hid ((HW.out.below.setCell (p := ⟨g5, 0, none⟩) hg5w (.slice A1 (lstN I B.length).length c1)).setCell (p := ⟨g5, 1, none⟩) hg5w (.slice A2' (lstN O B.length).length c2'))
        obtain ⟨wz, hwz⟩ : ∃ wz, wz = ((wo.setCell ⟨g5, 0, none⟩ (.slice A1 (lstN I B.length).length c1)).setCell ⟨g5, 1, none⟩ (.slice A2' (lstN O B.length).length c2')) := ⟨_, rfl⟩
        rw [← hwz] at hk HX1 HX2 HXB ⊢
        clear hwz y0 y1 x0 x1 fx0 fx1 hkf hSf hnb
        obtain ⟨x0, x1⟩ := cells2 hk
        (try simp only [Exit.inBlock, Exit.then])
        refine bodyPost_ret (v := .tuple #[.agg #[.slice A1 (lstN I B.length).length c1, .slice A2' (lstN O B.length).length c2'], .int .i64 0]) ?hr rfl ?_
        case hr =>
          unfold results
          rw [show Try.f10.results = #[.cell 2 30, .tmp 3] from rfl]
          simp
          go_simp
        exact ⟨.inr ⟨N, _, _, I, O, rfl, HF.out, rfl, HSI.out, HX1.out, HX2.out⟩, HXB.out⟩
end Go.Proofs.Ythgodpmahdnnjaa
end
section
namespace Go.Proofs.Ythgodpmahdnnjaa
open Go.RowKit Go.Proofs.YthgodpmahdnnjaaW.PrintWords Go.Proofs.YthgodpmahdnnjaaW.PrintMore Go.Proofs.Ythgodpmahdnnjaa.H
theorem act_ok {R : Nat} (hR : R ≤ 30) {B : List S43} (hF : OkF R B) (w0 : World) {n₀ : Nat} (gc gs : Nat) (vs : Nat → Value) (hw : w0.heap.size ≤ n₀) :
    ActOk R B 48 #[.pointer (some ⟨gc, 0, none⟩)] w0 n₀ (fun cs W => InfJ R w0.heap.size n₀ gc gs vs (infN B cs) W) := by
  refine ⟨fun pre W h => h.sz, fun pre W W' h hb _ => h.stable hb, fun pre b p m A c W hj hbw _ hb hp hm hc hC => ?_⟩
  have := act_calls R hR B hF w0 n₀ gc gs vs (infN B pre) b p m A c W hj hbw hw hb hp hm hc hC _ rfl
  rw [← infN_snoc] at this
  simpa only [List.append_toArray, List.cons_append, List.nil_append] using this
theorem rowsOf_rowF {w : World} {s0 g N : Nat} {f : Nat → Value} {ls : Nat → List Int} (h : w.heap[g]? = some (.cells (rowF f N) 39 (0, 0))) (hg : s0 ≤ g) (hN : N ≤ 1000) (ho : ∀ r, r < N → Own1 3 w s0 (f r) (ls r)) :
    RowsOf w s0 (.slice (some ⟨g, 0, none⟩) N N) ((List.range N).map ls) := by
  refine ⟨(List.range N).map f, by simp, ⟨by simp, .inr ⟨g, N, rowF f N, by simp, hg, h, by simp, by simp [maxLen]; omega, by simp [rowF_size], ?_⟩⟩, fun i hi => ?_⟩
  · simp only [rowF, Nat.mul_one]
    exact List.take_of_length_le (by simp)
  · have hi' : i < N := by simpa using hi
    have e1 : ((List.range N).map f).getD i undef = f i := by simp [List.getD_eq_getElem?_getD, hi']
    have e2 : ((List.range N).map ls).getD i [] = ls i := by simp [List.getD_eq_getElem?_getD, hi']
    rw [e1, e2]; exact ho i hi'
structure InfP (N base gc gs i : Nat) (vs : Nat → Value) (W : World) : Prop where
  box : W.heap[gc]? = some (.cells #[.slice (some ⟨gs, 0, none⟩) N N] 71 (0, 0))
  tab : W.heap[gs]? = some (.cells (rowF vs N) 75 (0, 0))
  own : ∀ r, r < i → Own1 0 W base (vs r) (rowN N 0)
  nil : ∀ r, i ≤ r → vs r = .slice none 0 0
  sep : ∀ r r', r ≠ r' → ∀ k, (vs r).ownBlock = some k → (vs r').ownBlock ≠ some k
theorem InfP.step {N base gc gs i : Nat} {vs : Nat → Value} {W W8 : World} {v : Value} (h : InfP N base gc gs i vs W) (hi : i < N) (hb : Below W.heap.size W W8) (hw : base ≤ W.heap.size) (hv : Own1 0 W8 W.heap.size v (rowN N 0)) :
    InfP N base gc gs (i + 1) (fun r => if r = i then v else vs r) (W8.setCell ⟨gs, i, none⟩ v) := by
  have hb1 := heap_below h.box hb
  have ht1 := heap_below h.tab hb
  have hne : gc ≠ gs := blk_ne h.box h.tab (by decide)
  have hk : ∀ {t : Nat} {x : Value} {l : List Int}, te t ≠ 75 → Own1 t W8 base x l → Own1 t (W8.setCell ⟨gs, i, none⟩ v) base x l := fun ht ho => ho.move fun k hk => by
    obtain ⟨cs, hcs⟩ := ho.cells k hk
    exact Below.heap_setCell W8 ⟨gs, i, none⟩ v k (fun e => by subst e; rw [ht1] at hcs; injection hcs with h1; injection h1 with _ h2 _; exact ht h2.symm)
  have hvk : ∀ r, r < i → ∀ k, (vs r).ownBlock = some k → k < W.heap.size := fun r hr k hk => ((h.own r hr).lt k hk).2
  refine ⟨(Below.heap_setCell W8 ⟨gs, i, none⟩ v gc hne).trans hb1, heap_set_row v ht1, fun r hr => ?_, fun r hr => ?_, fun r r' hne' k hk1 hk2 => ?_⟩
  · by_cases e : r = i
    · subst e; rw [if_pos rfl]; exact hk (by decide) (hv.lower hw)
    · rw [if_neg e]; exact hk (by decide) ((h.own r (by omega)).kept (Kept.of_below hb (fun _ => False)) (fun _ _ h => h))
  · rw [if_neg (by omega)]; exact h.nil r (by omega)
  · have key : ∀ r, r ≠ i → ∀ k, (vs r).ownBlock = some k → v.ownBlock = some k → False := fun r hr k h1 h2 => by
      rcases Nat.lt_or_ge r i with hlt | hge
      · have := hvk r hlt k h1; have := (hv.lt k h2).1; omega
      · rw [h.nil r hge] at h1; cases h1
    by_cases e1 : r = i
    · rw [if_pos e1] at hk1
      rw [if_neg (by omega)] at hk2
      exact key r' (by omega) k hk2 hk1
    · rw [if_neg e1] at hk1
      by_cases e2 : r' = i
      · rw [if_pos e2] at hk2; exact key r e1 k hk1 hk2
      · rw [if_neg e2] at hk2; exact h.sep r r' hne' k hk1 hk2
set_option maxHeartbeats 8000000 in
set_option maxRecDepth 100000 in
theorem Interference_calls (nm : ByteArray) (R : Int) (hR : R ≤ 30) (A2 : Option Addr) (c2 n2 : Nat) (A3 : Option Addr) (c3 : Nat) (B : List S43) (w : World)
    (hC3 : k43.C w A3 B.length B) (hc3 : B.length ≤ c3) (hn : B.length ≤ 30) (hcode : ∀ x ∈ B, x.f0.length ≤ 1000) :
    Calls Try.prog 18 #[.agg #[.string nm, .int .i64 R, .slice A2 n2 c2, .slice A3 B.length c3]] w
      fun e w' => ((wfB R B = false ∧ e = .returned (.tuple #[.slice none 0 0, .int .i64 3])) ∨
        (∃ (N : Nat) (v : Value) (I O : Nat → Nat), R = N ∧ OkF N B ∧ e = .returned (.tuple #[v, .int .i64 0]) ∧ SI N B I O [] ∧ RowsOf w' w.heap.size v ((List.range N).map fun r => listN (infN B (visL B O B.length) r)))) ∧ Below w.heap.size w w' := by
  have hn1 : B.length ≤ 1000 := by omega
  have HC3 := Lib.hid hC3
  have HCD := Lib.hid hcode
  clear hC3 hcode
  obtain ⟨o, ho⟩ : ∃ o, o = wfB R B := ⟨_, rfl⟩
  rw [← ho]
  have HO := Lib.hid ho
  clear ho
  cases o with
  | false =>
    go_enter Try.func18, Try.ntmps18
    go_wp2_with (first
      | ((with_reducible refine gate_dst (N := 1) rfl ?_); refine box_event ?hg (N := 1) ?hd (cs := #[.string nm, .int .i64 R, .slice A2 n2 c2, .slice A3 B.length c3]) (t := 25) ?hr ?_; (case hd => rfl); (case hg => rfl); (case hr => first | (go_simp; done) | (go_simp; rfl)); intro g hg w3 hbox hbw; have HBW := Lib.hid hbw; obtain ⟨z0, z1, z2, z3⟩ := cells4 hbox; clear hbox hbw; have HG := Lib.hid hg; clear hg)
      | (go_at_call 35; refine (wf_calls nm R A2 c2 n2 A3 c3 B _ (Kd.C_below HC3.out HBW.out) hc3 hn1 HCD.out).mono ?_; rw [← HO.out]; rintro e w6 ⟨rfl, hb6⟩; have HB6 := Lib.hid hb6; clear hb6 z0 z1 z2 z3)
      | fail)
    go_ret2
    exact ⟨.inl ⟨trivial, rfl⟩, HBW.out.trans (HB6.out.mono HBW.out.size)⟩
  | true =>
    obtain ⟨N, rfl, hN, hF⟩ := (wfB_iff R B).1 HO.out.symm
    have HF := Lib.hid hF
    have hNR : N ≤ 30 := by omega
    clear hF
    have hms := run_make_row' (P := Try.prog) 71 75 (.slice none 0 0) 24 Try.underlying71 (by kernel_rfl) rfl .i64 .i64 N (by omega) (by omega)
    have hmp := run_make_row' (P := Try.prog) 28 39 (.slice none 0 0) 24 Try.underlying28 (by kernel_rfl) rfl .i64 .i64 N (by omega) (by omega)
    rw [rowF_made] at hms hmp
    go_enter Try.func18, Try.ntmps18
    go_upto_region 5 with (first
      | ((with_reducible refine gate_dst (N := 1) rfl ?_); refine box_event ?hg (N := 1) ?hd (cs := #[.string nm, .int .i64 N, .slice A2 n2 c2, .slice A3 B.length c3]) (t := 25) ?hr ?_; (case hd => rfl); (case hg => rfl); (case hr => first | (go_simp; done) | (go_simp; rfl)); intro g hg w3 hbox hbw; have BK := Lib.hid hbox; have HBW := Lib.hid hbw; obtain ⟨z0, z1, z2, z3⟩ := cells4 hbox; clear hbox hbw; have HG := Lib.hid hg; clear hg)
      | (go_at_call 35; refine (wf_calls nm N A2 c2 n2 A3 c3 B _ (Kd.C_below HC3.out HBW.out) hc3 hn1 HCD.out).mono ?_; rw [← HO.out]; rintro e w6 ⟨rfl, hb6⟩; have HB6 := Lib.hid hb6; have BKB := Lib.hid (heap_below BK.out hb6); clear hb6 z0 z1 z2 z3; obtain ⟨z0, z1, z2, z3⟩ := cells4 BKB.out)
      | fail)
    obtain ⟨gs, hgs⟩ : ∃ gs, gs = w6.heap.size := ⟨_, rfl⟩
    obtain ⟨w7, hw7⟩ : ∃ w7, w7 = ((w6.alloc (Obj.cells (rowF (fun _ => .slice none 0 0) N) 75)).alloc (Obj.cells #[.slice (some ⟨gs, 0, none⟩) N N] 71)) := ⟨_, rfl⟩
    rw [← hgs, ← hw7]
    have hb67 : Below w6.heap.size w6 w7 := by rw [hw7]; exact ((Below.refl _ w6).alloc (Nat.le_refl _) _).alloc (by simp) _
    have hw63 : w.heap.size ≤ w6.heap.size := (HBW.out.trans (HB6.out.mono HBW.out.size)).size
    have hP0 : InfP N w6.heap.size (gs + 1) gs 0 (fun _ => .slice none 0 0) w7 := by
      refine ⟨?_, ?_, fun r hr => by omega, fun r _ => rfl, fun r r' _ k hk => by cases hk⟩
      · rw [hw7, hgs, ← alloc_size1 w6 (Obj.cells (rowF (fun _ => .slice none 0 0) N) 75)]; exact World.alloc_heap_new _ _
      · rw [hw7, hgs]; exact (Below.heap_alloc _ _ _ (by simp)).trans (World.alloc_heap_new w6 _)
    have hgg : g < w6.heap.size := heap_lt BKB.out
    have HP0 := Lib.hid hP0
    have HBW7 := Lib.hid hb67
    have HBW6 := Lib.hid (HBW.out.trans (HB6.out.mono HBW.out.size))
    have hgsw : w6.heap.size ≤ gs := by omega
    clear hP0 hb67 hw7 hgs hms z0 z1 z2 z3 BK HBW HB6 HG
    go_loopg [16] (N) (fun k v16 wr => ∃ (i : Nat) (vs : Nat → Value), i ≤ N ∧ k = N - i ∧ v16 = .int .i64 i ∧ InfP N w6.heap.size (gs + 1) gs i vs wr ∧ Below w6.heap.size w6 wr)
    case atStart => exact ⟨0, _, Nat.zero_le _, rfl, rfl, HP0.out, HBW7.out⟩
    case round =>
      obtain ⟨i, vs, hi, rfl, rfl, hP, hbw⟩ := hrel
      obtain ⟨wo, rfl⟩ : ∃ wo, wo = wr := ⟨_, rfl⟩
      have HP := Lib.hid hP
      have hbk := heap_below BKB.out hbw
      have HBK := Lib.hid hbk
      have HBWo := Lib.hid hbw
      clear hP hbk hbw HP0 HBW7
      by_cases hlt : i < N
      · have hR0 := newSet_f (R := N) (by omega)
        obtain ⟨z0, z1, z2, z3⟩ := cells4 HBK.out
        have y0 : wo.cell? ⟨gs + 1, 0, none⟩ = some (.slice (some ⟨gs, 0, none⟩) N N) := (blk_cell HP.out.box 0).trans rfl
        obtain ⟨q1, fq1⟩ := cell_of_row HP.out.tab (rowF_get hlt)
        go_upto_region 7 with fail
        go_region_with (first
          | (go_at_call 40; refine (liveness_newSet.calls _ _ wo.drew hR0).mono ?_; rintro e w8 ⟨v8, rfl, hR8, hb8⟩; obtain ⟨A8, c8, rfl, _, _⟩ := Kd.R_reads hR8; have hb8' := (Below.refl wo.heap.size wo).drew.trans hb8; have HR8 := Lib.hid (Own1.of_R0 (t := 0) hR8); have HB8 := Lib.hid hb8'; have y1 : w8.cell? ⟨gs + 1, 0, none⟩ = some (.slice (some ⟨gs, 0, none⟩) N N) := (blk_cell (heap_below HP.out.box hb8') 0).trans rfl; obtain ⟨q2, fq2⟩ := cell_of_row (heap_below HP.out.tab hb8') (rowF_get hlt); clear hR8 hb8 hb8')
          | fail)
        all_goals
          have hX := HP.out.step hlt HB8.out HBWo.out.size HR8.out
          have HX := Lib.hid hX
          clear hX
          go_wp2_with fail
          go_roundg (N - (i + 1))
          case rel => exact ⟨i + 1, _, by omega, rfl, by go_num, HX.out, (HBWo.out.trans (HB8.out.mono HBWo.out.size)).setCell (p := ⟨gs, i, none⟩) hgsw _⟩
          case measure => omega
      · have e : i = N := by omega
        subst e
        have hJ : InfJ i w6.heap.size wo.heap.size (gs + 1) gs vs (infN B []) wo :=
          ⟨HP.out.box, HP.out.tab, fun r hr => HP.out.own r hr, fun r r' _ _ hne => HP.out.sep r r' hne, fun r hr k hk => ((HP.out.own r hr).lt k hk).2, heap_lt HP.out.box, heap_lt HP.out.tab, fun r _ => Nat.two_pow_pos _, Nat.le_refl _⟩
        have hvis := visit_calls nm i hNR A2 c2 n2 A3 c3 B (gs + 1) w6 wo _ HBWo.out (Kd.C_below HC3.out HBW6.out) hc3 hn HCD.out HF.out (act_ok hNR HF.out w6 (gs + 1) gs vs HBWo.out.size) hJ
        have HVIS := Lib.hid hvis
        have hmf : ∀ fn first cap w, (Instr.makeFunc fn first cap).run Try.prog w = .ok (.func fn first cap) w := fun _ _ _ _ => rfl
        obtain ⟨z0, z1, z2, z3⟩ := cells4 HBK.out
        clear hJ hvis
        go_upto_region 10 with (first
          | (go_at_call 47; refine HVIS.out.mono ?_; rintro e w9 ⟨I, O, rfl, hsi, hj, hb9⟩; have HSI := Lib.hid hsi; have HJ9 := Lib.hid hj; have HB9 := Lib.hid hb9; clear hsi hj hb9)
          | fail)
        have hbk9 := heap_below BKB.out HB9.out
        clear z0 z1 z2 z3 hmf HVIS HP HBK HBWo
        obtain ⟨z0, z1, z2, z3⟩ := cells4 hbk9
        clear hbk9
        obtain ⟨X, hX⟩ : ∃ X, X = infN B (visL B O B.length) := ⟨_, rfl⟩
        rw [← hX] at HJ9
        have HX := Lib.hid hX
        clear hX
        have hJ10 := HJ9.out.stable ((Below.refl w9.heap.size w9).alloc (Nat.le_refl _) (.cells (rowF (fun _ => .slice none 0 0) i) 39) |>.mono HJ9.out.sz)
        have y0 : (w9.alloc (.cells (rowF (fun _ => .slice none 0 0) i) 39)).cell? ⟨gs + 1, 0, none⟩ = some (.slice (some ⟨gs, 0, none⟩) i i) := (blk_cell hJ10.box 0).trans rfl
        have HJ10 := Lib.hid hJ10
        clear hJ10
        go_upto_region 12 with (first
          | fail)
        obtain ⟨gr, hgr⟩ : ∃ gr, gr = w9.heap.size := ⟨_, rfl⟩
        obtain ⟨wa, hwa⟩ : ∃ wa, wa = w9.alloc (.cells (rowF (fun _ => .slice none 0 0) i) 39) := ⟨_, rfl⟩
        rw [← hgr, ← hwa]
        have hba : Below w9.heap.size w9 wa := by rw [hwa]; exact (Below.refl _ w9).alloc (Nat.le_refl _) _
        have hra : wa.heap[gr]? = some (.cells (rowF (fun _ => .slice none 0 0) i) 39 (0, 0)) := by rw [hwa, hgr]; exact World.alloc_heap_new w9 _
        have hJa := HJ9.out.stable (hba.mono HJ9.out.sz)
        have hw96 : w6.heap.size ≤ w9.heap.size := HB9.out.size
        have hgrw : w6.heap.size ≤ gr := by omega
        have HRA := Lib.hid hra
        have HJA := Lib.hid hJa
        have HBA := Lib.hid (HB9.out.trans (hba.mono hw96))
        have hgrn : wo.heap.size ≤ gr := by rw [hgr]; exact HJ9.out.sz
        clear hba hra hJa hwa hgr y0 HJ10 z0 z1 z2 z3 HB9 HJ9
        go_loopw [34] (fun v wr => ∃ (j : Nat) (xs : Nat → Value), j ≤ i ∧ v = .int .i64 j ∧ InfJ i w6.heap.size wo.heap.size (gs + 1) gs vs X wr ∧ wr.heap[gr]? = some (.cells (rowF xs i) 39 (0, 0)) ∧ (∀ r, r < j → Own1 3 wr w6.heap.size (xs r) (listN (X r))) ∧ Below w6.heap.size w6 wr) (fun v _ => i - (intOf v).toNat)
        case atStart => exact ⟨0, _, Nat.zero_le _, rfl, HJA.out, HRA.out, fun r hr => absurd hr (Nat.not_lt_zero r), HBA.out⟩
        case round =>
          obtain ⟨j, xs, hj, rfl, hJ, hrow, hxs, hbw⟩ := hrel
          obtain ⟨wb, rfl⟩ : ∃ wb, wb = wr := ⟨_, rfl⟩
          have HJb := Lib.hid hJ
          have HRb := Lib.hid hrow
          have HXb := Lib.hid hxs
          have HBb := Lib.hid hbw
          clear hJ hrow hxs hbw HJA HRA HBA
          by_cases hjl : j < i
          · have hoj := HJb.out.own j hjl
            have hxl := HJb.out.xlt j hjl
            obtain ⟨Aj, cj, ej, hlj, hCj⟩ := Kd.R_reads (hoj.R0 (t := 0) (ok := fun _ => True) (fun _ _ => trivial))
            have hcall := liveness_set_list.calls 70 Aj cj (rowN i (X j)) _ wb hCj hlj (list_f (by omega) hxl (Nat.le_refl _))
            have HCALL := Lib.hid hcall
            have y0 : wb.cell? ⟨gs + 1, 0, none⟩ = some (.slice (some ⟨gs, 0, none⟩) i i) := (blk_cell HJb.out.box 0).trans rfl
            obtain ⟨y1, _⟩ := cell_of_row HJb.out.tab (rowF_get hjl)
            rw [ej] at y1
            clear hcall hCj hlj hoj ej
            go_wp2_with (first
              | (go_at_call 37; refine HCALL.out.mono ?_; rintro e w8 ⟨v8, rfl, hR8, hb8⟩; obtain ⟨A8, c8, rfl⟩ := Kd.R_slice hR8; have HR8 := Lib.hid (Own1.of_R0 (t := 3) hR8); have HB8 := Lib.hid hb8; obtain ⟨q2, fq2⟩ := cell_of_row (heap_below HRb.out hb8) (rowF_get hjl); clear hR8 hb8)
              | fail)
            go_roundw
            case rel =>
              have hsb : w6.heap.size ≤ wb.heap.size := HBb.out.size
              have hr8 := heap_below HRb.out HB8.out
              have hk : ∀ {x : Value} {l : List Int}, Own1 3 w8 w6.heap.size x l → Own1 3 (w8.setCell ⟨gr, j, none⟩ (.slice A8 (listN (X j)).length c8)) w6.heap.size x l := fun ho => ho.move fun k hk => by
                obtain ⟨cs, hcs⟩ := ho.cells k hk
                exact Below.heap_setCell w8 ⟨gr, j, none⟩ _ k (fun e => by subst e; rw [hr8] at hcs; injection hcs with h1; injection h1 with _ h2 _; exact absurd h2 (by decide))
              refine ⟨j + 1, fun r => if r = j then .slice A8 (listN (X j)).length c8 else xs r, by omega, by go_num, (HJb.out.stable (HB8.out.mono HJb.out.sz)).stable ((Below.refl _ w8).setCell (p := ⟨gr, j, none⟩) hgrn _), heap_set_row _ hr8, fun r hr => ?_, (HBb.out.trans (HB8.out.mono hsb)).setCell (p := ⟨gr, j, none⟩) hgrw _⟩
              dsimp only
              by_cases e : r = j
              · subst e; rw [if_pos rfl]; exact hk (HR8.out.lower hsb)
              · rw [if_neg e]; exact hk ((HXb.out r (by omega)).kept (Kept.of_below HB8.out (fun _ => False)) (fun _ _ h => h))
            case measure => simp [intOf]; omega
          · have e : j = i := by omega
            subst e
            go_wp2
            go_ret2
            have hsb : w.heap.size ≤ w6.heap.size := HBW6.out.size
            refine ⟨.inr ⟨j, _, I, O, rfl, HF.out, rfl, HSI.out, ?_⟩, HBW6.out.trans (HBb.out.mono hsb)⟩
            rw [← HX.out]
            exact (rowsOf_rowF HRb.out hgrw (by omega) HXb.out).lower hsb
end Go.Proofs.Ythgodpmahdnnjaa
end
section
namespace Go.Proofs.Ythgodpmahdnnjaa
open Go.RowKit Go.Proofs.YthgodpmahdnnjaaW.PrintWords Go.Proofs.YthgodpmahdnnjaaW.PrintMore Go.Proofs.Ythgodpmahdnnjaa.H
def aC : List S62 := [⟨1, 0, 0, 0, 1, ⟨#[]⟩⟩, ⟨1, 1, 0, 0, 2, ⟨#[]⟩⟩, ⟨3, 0, 0, 1, 6, ⟨#[]⟩⟩, ⟨10, 0, 0, 0, 0, ⟨#[]⟩⟩]
def aB : List S43 := [⟨aC, 3, 0, 0, 0⟩]
theorem aB_wf : wfB 2 aB = true := by decide
theorem aB_O {R : Nat} {I O : Nat → Nat} (h : SI R aB I O []) : O 0 = 0 ∧ I 0 = 0 := by
  have hO : O 0 = 0 := by
    apply Nat.eq_of_testBit_eq
    intro r
    rw [Nat.zero_testBit]
    cases hb : (O 0).testBit r with
    | false => rfl
    | true =>
      exfalso
      have hl := h.soundO 0 (by decide) r hb
      generalize hz : (0 : Nat) = b at hl
      cases hl with
      | use h1 _ => subst hz; simp [aB, succL] at h1
      | thru h1 _ _ => subst hz; simp [aB, succL] at h1
  refine ⟨hO, ?_⟩
  have := (h.fixed 0 (by decide) (by simp)).1
  rw [this, hO]
  decide
theorem aB_inf (O : Nat → Nat) (h : O 0 = 0) : listN (infN aB (visL aB O 1) 0) = [1] ∧ listN (infN aB (visL aB O 1) 1) = [0] := by
  have e : visL aB O 1 = visL aB (fun _ => 0) 1 := by simp [visL, h]
  rw [e]
  constructor <;> decide
theorem aB_bef : befoR 2 aB [[]] 0 2 = [0, 1] := by decide
theorem C_flat {α : Type} {d : Kd α} {w : World} {g : Nat} {t : TypeId} {cells : Array Value} (h : w.heap[g]? = some (.cells cells t (0, 0))) (xs : List α) (hn : xs.length ≤ 1000)
    (hK : ∀ j p, xs[j]? = some p → ∃ c, c.length = d.sz ∧ d.K w p c ∧ ∀ i u, c[i]? = some u → cells[j * d.sz + i]? = some u) : d.C w (some ⟨g, 0, none⟩) xs.length xs := by
  refine ⟨rfl, by omega, fun _ => ⟨_, rfl, fun j p hp => ?_⟩⟩
  obtain ⟨c, h1, h2, h3⟩ := hK j p hp
  refine ⟨c, h1, h2, fun i u hu => ?_⟩
  have hadd : (⟨g, 0, none⟩ : Addr).add (j * d.sz + i) = ⟨g, j * d.sz + i, none⟩ := by unfold Addr.add; split <;> simp_all
  rw [hadd]
  exact (cell_of_row h (h3 i u hu)).1
structure AwW (w : World) (h2 h3 h4 : Nat) (Ai : Option Addr) (ci : Nat) (Ao : Option Addr) (co : Nat) (pI : Addr) (A0 : Option Addr) (c0 : Nat) (p0 p1 : Addr) (L0 : Option Addr) (d0 : Nat) (L1 : Option Addr) (d1 : Nat) (W : World) : Prop where
  b25 : W.heap[h3]? = some (.cells #[.string ⟨#[]⟩, .int .i64 2, .slice none 0 0, .slice (some ⟨h2, 0, none⟩) 1 1] 25 (0, 0))
  b30 : W.heap[h4]? = some (.cells #[.slice Ai 1 ci, .slice Ao 1 co] 30 (0, 0))
  cB : k43.C W (some ⟨h2, 0, none⟩) 1 aB
  cO : (Kd.slice 3 (Kd.int .i64)).C W Ao 1 [[]]
  e0 : W.cell? pI = some (.slice A0 0 c0)
  l0 : W.cell? p0 = some (.slice L0 1 d0)
  l1 : W.cell? p1 = some (.slice L1 1 d1)
  r0 : (Kd.int .i64).C W L0 1 [1]
  r1 : (Kd.int .i64).C W L1 1 [0]
  bw : Below w.heap.size w W
theorem cell_up {W W1 : World} {p : Addr} {v : Value} (h : W.cell? p = some v) (hb : Below W.heap.size W W1) : W1.cell? p = some v := (World.cell?_of_block (hb.block _ (World.block_lt_of_cell? W _ h))).trans h
theorem AwW.step {w : World} {h2 h3 h4 : Nat} {Ai : Option Addr} {ci : Nat} {Ao : Option Addr} {co : Nat} {pI : Addr} {A0 : Option Addr} {c0 : Nat} {p0 p1 : Addr} {L0 : Option Addr} {d0 : Nat} {L1 : Option Addr} {d1 : Nat} {W W1 : World} (h : AwW w h2 h3 h4 Ai ci Ao co pI A0 c0 p0 p1 L0 d0 L1 d1 W) (hb : Below W.heap.size W W1) : AwW w h2 h3 h4 Ai ci Ao co pI A0 c0 p0 p1 L0 d0 L1 d1 W1 :=
  ⟨heap_below h.b25 hb, heap_below h.b30 hb, Kd.C_below h.cB hb, Kd.C_below h.cO hb, cell_up h.e0 hb, cell_up h.l0 hb, cell_up h.l1 hb, Kd.C_below h.r0 hb, Kd.C_below h.r1 hb, h.bw.trans (hb.mono h.bw.size)⟩
theorem C_new (W : World) (xs : List Int) (hn : xs.length ≤ 1000) : (Kd.int .i64).C (W.alloc (.cells (nums .i64 xs).toArray 3)) (some ⟨W.heap.size, 0, none⟩) xs.length xs :=
  C_flat (World.alloc_heap_new W _) xs hn (fun j p hp => ⟨[.int .i64 p], rfl, rfl, fun i u hu => by
    have hi : i = 0 := by have := (List.getElem?_eq_some_iff.1 hu).1; simp at this; omega
    subst hi
    simp at hu; subst hu
    have : (Kd.int .i64).sz = 1 := rfl
    rw [this]
    simp [nums, hp]⟩)
theorem aB_code : ∀ x ∈ aB, x.f0.length ≤ 1000 := fun x hx => by simp [aB] at hx; subst hx; decide
theorem aOf {W : World} {h2 : Nat} (hC : k43.C W (some ⟨h2, 0, none⟩) 1 aB) : Calls Try.prog 10 #[.agg #[.string ⟨#[]⟩, .int .i64 2, .slice none 0 0, .slice (some ⟨h2, 0, none⟩) 1 1]] W fun e w' =>
    ∃ Ai ci Ao co, e = .returned (.tuple #[.agg #[.slice Ai 1 ci, .slice Ao 1 co], .int .i64 0]) ∧ (Kd.slice 3 (Kd.int .i64)).C w' Ai 1 [[]] ∧ (Kd.slice 3 (Kd.int .i64)).C w' Ao 1 [[]] ∧ 1 ≤ co ∧ Below W.heap.size W w' := by
  refine (Of_calls ⟨#[]⟩ 2 (by decide) none 0 0 (some ⟨h2, 0, none⟩) 1 aB W hC (by decide) (by decide) aB_code).mono ?_
  rintro e w' ⟨h, hb⟩
  rcases h with ⟨hf, _⟩ | ⟨N, vi, vo, I, O, hN, _, rfl, hsi, hRi, hRo⟩
  · rw [aB_wf] at hf; cases hf
  · obtain ⟨hO, hI⟩ := aB_O hsi
    have eI : lstN I aB.length = [[]] := by simp [lstN, aB, hI]; decide
    have eO : lstN O aB.length = [[]] := by simp [lstN, aB, hO]; decide
    rw [eI] at hRi
    rw [eO] at hRo
    obtain ⟨Ai, ci, rfl, _, hCi⟩ := hRi.C
    obtain ⟨Ao, co, rfl, hlo, hCo⟩ := hRo.C
    exact ⟨Ai, ci, Ao, co, rfl, hCi, hCo, hlo, hb⟩
theorem aInf {W : World} {h2 : Nat} (hC : k43.C W (some ⟨h2, 0, none⟩) 1 aB) : Calls Try.prog 18 #[.agg #[.string ⟨#[]⟩, .int .i64 2, .slice none 0 0, .slice (some ⟨h2, 0, none⟩) 1 1]] W fun e w' =>
    ∃ Al cl, e = .returned (.tuple #[.slice Al 2 cl, .int .i64 0]) ∧ (Kd.slice 3 (Kd.int .i64)).C w' Al 2 [[1], [0]] ∧ Below W.heap.size W w' := by
  refine (Interference_calls ⟨#[]⟩ 2 (by decide) none 0 0 (some ⟨h2, 0, none⟩) 1 aB W hC (by decide) (by decide) aB_code).mono ?_
  rintro e w' ⟨h, hb⟩
  rcases h with ⟨hf, _⟩ | ⟨N, v, I, O, hN, _, rfl, hsi, hR⟩
  · rw [aB_wf] at hf; cases hf
  · obtain ⟨hO, _⟩ := aB_O hsi
    obtain ⟨e0, e1⟩ := aB_inf O hO
    obtain rfl : N = 2 := by omega
    have eL : ((List.range 2).map fun r => listN (infN aB (visL aB O aB.length) r)) = [[1], [0]] := by
      show [listN (infN aB (visL aB O 1) 0), listN (infN aB (visL aB O 1) 1)] = _
      rw [e0, e1]
    rw [eL] at hR
    obtain ⟨Al, cl, rfl, _, hCl⟩ := hR.C
    exact ⟨Al, cl, rfl, hCl, hb⟩
theorem aBef {W : World} {h2 ci co : Nat} {Ai Ao : Option Addr} (hC : k43.C W (some ⟨h2, 0, none⟩) 1 aB) (hCo : (Kd.slice 3 (Kd.int .i64)).C W Ao 1 [[]]) (hco : 1 ≤ co) :
    Calls Try.prog 13 #[.agg #[.string ⟨#[]⟩, .int .i64 2, .slice none 0 0, .slice (some ⟨h2, 0, none⟩) 1 1], .agg #[.slice Ai 1 ci, .slice Ao 1 co], .int .i64 0, .int .i64 2] W fun e w' =>
    ∃ A c, e = .returned (.slice A 2 c) ∧ 2 ≤ c ∧ (Kd.int .i64).C w' A 2 [0, 1] ∧ Below W.heap.size W w' := by
  refine (Before_calls ⟨#[]⟩ 2 none 0 0 (some ⟨h2, 0, none⟩) 1 aB Ai 1 ci Ao co [[]] 0 2 W hC (by decide) (by decide) aB_code (by decide) hCo hco (by decide) (by simp)).mono ?_
  rintro e w' ⟨v, rfl, hR, hb⟩
  rw [aB_bef] at hR
  obtain ⟨A, c, rfl, hl, hCv⟩ := Kd.R_reads hR
  exact ⟨A, c, rfl, hl, hCv, hb⟩
theorem aEq {W : World} {L : Option Addr} {d : Nat} (xs : List Int) (hn : xs.length ≤ 3) (hC : (Kd.int .i64).C W L xs.length xs) (hd : xs.length ≤ d) (hf : slices_Equal_int_int.f 10 xs xs = some true) :
    Calls Try.prog 14 #[.slice L xs.length d, .slice (some ⟨W.heap.size, 0, none⟩) xs.length xs.length] (W.alloc (.cells (nums .i64 xs).toArray 3)) fun e w' => e = .returned (.bool true) ∧ Below W.heap.size W w' := by
  have hb : Below W.heap.size W (W.alloc (.cells (nums .i64 xs).toArray 3)) := (Below.refl _ W).alloc (Nat.le_refl _) _
  refine (slices_Equal_int_int.calls 10 L d xs (some ⟨W.heap.size, 0, none⟩) xs.length xs true _ (Kd.C_below hC hb) hd (C_new W xs (by omega)) (Nat.le_refl _) hf).mono ?_
  rintro e w' ⟨rfl, hd'⟩
  exact ⟨rfl, hb.trans (hd'.below.mono hb.size)⟩
set_option maxHeartbeats 8000000 in
set_option maxRecDepth 100000 in
theorem awake_calls (w : World) : Calls Try.prog 8 #[] w fun e w' => e = .returned (.bool true) ∧ Below w.heap.size w w' := by
  have i1 : ontimelaw19_ins.f 1 0 0 0 1 = some (1, 0, 0, 0, 1, ⟨#[]⟩) := by (show _ = _); kernel_rfl
  have i2 : ontimelaw19_ins.f 1 1 0 0 2 = some (1, 1, 0, 0, 2, ⟨#[]⟩) := by (show _ = _); kernel_rfl
  have i3 : ontimelaw19_ins.f 3 0 0 1 6 = some (3, 0, 0, 1, 6, ⟨#[]⟩) := by (show _ = _); kernel_rfl
  have i4 : ontimelaw19_ins.f 10 0 0 0 0 = some (10, 0, 0, 0, 0, ⟨#[]⟩) := by (show _ = _); kernel_rfl
  have I1 := Lib.hid i1
  have I2 := Lib.hid i2
  have I3 := Lib.hid i3
  have I4 := Lib.hid i4
  clear i1 i2 i3 i4
  go_enter Try.func8, Try.ntmps8
  go_upto_region 2 with (first
    | (go_at_call 30; have hx := HB3.out; clear hx; refine (ontimelaw19_ins.calls 10 0 0 0 0 _ _ _ _ _ _ _ I4.out).mono ?_; rintro e w4 ⟨rfl, hb4⟩; have HB4 := Lib.hid hb4; clear hb4)
    | (go_at_call 30; have hx := HB2.out; clear hx; refine (ontimelaw19_ins.calls 3 0 0 1 6 _ _ _ _ _ _ _ I3.out).mono ?_; rintro e w3 ⟨rfl, hb3⟩; have HB3 := Lib.hid hb3; clear hb3)
    | (go_at_call 30; have hx := HB1.out; clear hx; refine (ontimelaw19_ins.calls 1 1 0 0 2 _ _ _ _ _ _ _ I2.out).mono ?_; rintro e w2 ⟨rfl, hb2⟩; have HB2 := Lib.hid hb2; clear hb2)
    | (go_at_call 30; refine (ontimelaw19_ins.calls 1 0 0 0 1 _ _ _ _ _ _ _ I1.out).mono ?_; rintro e w1 ⟨rfl, hb1⟩; have HB1 := Lib.hid hb1; clear hb1)
    | fail)
  obtain ⟨h1, hh1⟩ : ∃ h1, h1 = w4.heap.size := ⟨_, rfl⟩
  obtain ⟨w5, hw5⟩ : ∃ w5, w5 = w4.alloc (.cells #[.int .u8 1, .int .i64 0, .int .i64 0, .int .i64 0, .int .i64 1, .string ⟨#[]⟩, .int .u8 1, .int .i64 1, .int .i64 0, .int .i64 0, .int .i64 2, .string ⟨#[]⟩, .int .u8 3, .int .i64 0, .int .i64 0, .int .i64 1, .int .i64 6, .string ⟨#[]⟩, .int .u8 10, .int .i64 0, .int .i64 0, .int .i64 0, .int .i64 0, .string ⟨#[]⟩] 62) := ⟨_, rfl⟩
  obtain ⟨w6, hw6⟩ : ∃ w6, w6 = w5.alloc (.cells #[.slice (some ⟨h1, 0, none⟩) 4 4, .int .u8 3, .int .i64 0, .int .i64 0, .int .i64 0] 43) := ⟨_, rfl⟩
  obtain ⟨w7, hw7⟩ : ∃ w7, w7 = w6.alloc (.cells #[.string ⟨#[]⟩, .int .i64 2, .slice none 0 0, .slice (some ⟨h1 + 1, 0, none⟩) 1 1] 25) := ⟨_, rfl⟩
  rw [← hh1, ← hw5, ← hw6, ← hw7]
  have hb45 : Below w4.heap.size w4 w5 := by rw [hw5]; exact (Below.refl _ w4).alloc (Nat.le_refl _) _
  have hs5 : w5.heap.size = h1 + 1 := by rw [hw5, hh1]; exact alloc_size1 _ _
  have hb56 : Below w5.heap.size w5 w6 := by rw [hw6]; exact (Below.refl _ w5).alloc (Nat.le_refl _) _
  have hs6 : w6.heap.size = h1 + 1 + 1 := by rw [hw6, alloc_size1, hs5]
  have hb67 : Below w6.heap.size w6 w7 := by rw [hw7]; exact (Below.refl _ w6).alloc (Nat.le_refl _) _
  have hc5 : k62.C w5 (some ⟨h1, 0, none⟩) 4 aC := by
    have hk := World.alloc_heap_new w4 (.cells #[.int .u8 1, .int .i64 0, .int .i64 0, .int .i64 0, .int .i64 1, .string ⟨#[]⟩, .int .u8 1, .int .i64 1, .int .i64 0, .int .i64 0, .int .i64 2, .string ⟨#[]⟩, .int .u8 3, .int .i64 0, .int .i64 0, .int .i64 1, .int .i64 6, .string ⟨#[]⟩, .int .u8 10, .int .i64 0, .int .i64 0, .int .i64 0, .int .i64 0, .string ⟨#[]⟩] 62)
    rw [← hw5, ← hh1] at hk
    refine C_flat hk aC (by decide) fun j p hp => ?_
    have hj : j < 4 := (List.getElem?_eq_some_iff.1 hp).1
    refine ⟨_, rfl, k62_mk w5 p, fun i u hu => ?_⟩
    have hi : i < 6 := (List.getElem?_eq_some_iff.1 hu).1
    rw [show Kd.sz k62 = 6 from rfl]
    have hjc : j = 0 ∨ j = 1 ∨ j = 2 ∨ j = 3 := by omega
    have hic : i = 0 ∨ i = 1 ∨ i = 2 ∨ i = 3 ∨ i = 4 ∨ i = 5 := by omega
    rcases hjc with rfl | rfl | rfl | rfl <;> (injection hp with hp; subst hp; rcases hic with rfl | rfl | rfl | rfl | rfl | rfl <;> exact hu)
  have hc6 : k43.C w6 (some ⟨h1 + 1, 0, none⟩) 1 aB := by
    have hk := World.alloc_heap_new w5 (.cells #[.slice (some ⟨h1, 0, none⟩) 4 4, .int .u8 3, .int .i64 0, .int .i64 0, .int .i64 0] 43)
    rw [← hw6, hs5] at hk
    refine C_flat hk aB (by decide) fun j p hp => ?_
    have hj : j < 1 := (List.getElem?_eq_some_iff.1 hp).1
    obtain rfl : j = 0 := by omega
    injection hp with hp
    subst hp
    refine ⟨_, rfl, k43_mk w6 ⟨aC, 3, 0, 0, 0⟩ (c0 := 4) (Nat.le_refl _) (Kd.C_below hc5 hb56), fun i u hu => ?_⟩
    have hi : i < 5 := (List.getElem?_eq_some_iff.1 hu).1
    rw [show Kd.sz k43 = 5 from rfl]
    have hic : i = 0 ∨ i = 1 ∨ i = 2 ∨ i = 3 ∨ i = 4 := by omega
    rcases hic with rfl | rfl | rfl | rfl | rfl <;> exact hu
  have hk7 : w7.heap[h1 + 1 + 1]? = some (.cells #[.string ⟨#[]⟩, .int .i64 2, .slice none 0 0, .slice (some ⟨h1 + 1, 0, none⟩) 1 1] 25 (0, 0)) := by rw [hw7, ← hs6]; exact World.alloc_heap_new w6 _
  have hb4 : Below w.heap.size w w4 := HB1.out.trans ((HB2.out.trans ((HB3.out.trans (HB4.out.mono HB3.out.size)).mono HB2.out.size)).mono HB1.out.size)
  have hb7 : Below w.heap.size w w7 := hb4.trans ((hb45.trans ((hb56.trans (hb67.mono hb56.size)).mono hb45.size)).mono hb4.size)
  have HC7 := Lib.hid (Kd.C_below hc6 hb67)
  have HK7 := Lib.hid hk7
  have HB7 := Lib.hid hb7
  clear hc5 hc6 hk7 hb4 hb7 hb45 hb56 hb67 hs5 hs6 hw5 hw6 hw7 hh1 HB1 HB2 HB3 HB4 I1 I2 I3 I4
  have HOF := Lib.hid (aOf HC7.out)
  obtain ⟨z0, z1, z2, z3⟩ := cells4 HK7.out
  go_upto_region 3 with (first
    | (go_at_call 10; refine HOF.out.mono ?_; rintro e w8 ⟨Ai, ci, Ao, co, rfl, hCi, hCo, hlo, hb8⟩; have HCI := Lib.hid hCi; have HCO := Lib.hid hCo; have HLO := Lib.hid hlo; have HB8 := Lib.hid hb8; clear hCi hCo hlo hb8 z0 z1 z2 z3)
    | fail)
  obtain ⟨h4, hh4⟩ : ∃ h4, h4 = w8.heap.size := ⟨_, rfl⟩
  obtain ⟨w9, hw9⟩ : ∃ w9, w9 = w8.alloc (.cells #[.slice Ai 1 ci, .slice Ao 1 co] 30) := ⟨_, rfl⟩
  rw [← hh4, ← hw9]
  have hb89 : Below w8.heap.size w8 w9 := by rw [hw9]; exact (Below.refl _ w8).alloc (Nat.le_refl _) _
  have hk9 : w9.heap[h4]? = some (.cells #[.slice Ai 1 ci, .slice Ao 1 co] 30 (0, 0)) := by rw [hw9, hh4]; exact World.alloc_heap_new w8 _
  have hb79 := HB8.out.trans (hb89.mono HB8.out.size)
  have HC9 := Lib.hid (Kd.C_below HC7.out hb79)
  have HCI9 := Lib.hid (Kd.C_below HCI.out hb89)
  have HCO9 := Lib.hid (Kd.C_below HCO.out hb89)
  have HKF9 := Lib.hid (heap_below HK7.out hb79)
  have HK9 := Lib.hid hk9
  have HB9 := Lib.hid (HB7.out.trans (hb79.mono HB7.out.size))
  have HINF := Lib.hid (aInf HC9.out)
  clear hb89 hk9 hb79 hw9 hh4 HOF HCI HCO HC7 HK7 HB7 HB8
  obtain ⟨z0, z1, z2, z3⟩ := cells4 HKF9.out
  go_upto_region 4 with (first
    | (go_at_call 18; refine HINF.out.mono ?_; rintro e w10 ⟨Al, cl, rfl, hCl, hb10⟩; have HCL := Lib.hid hCl; have HB10 := Lib.hid hb10; clear hCl hb10 z0 z1 z2 z3)
    | fail)
  obtain ⟨adi, A0, c0, rfl, e0, hc0, _⟩ := at_rows (Kd.C_below HCI9.out HB10.out) 0 (by omega) (by omega)
  obtain ⟨adl, L0, d0, rfl, l0, hd0, r0⟩ := at_rows HCL.out 0 (by omega) (by omega)
  obtain ⟨adl', L1, d1, hadl, l1, hd1, r1⟩ := at_rows HCL.out 1 (by omega) (by omega)
  cases hadl
  have ha0 : ∀ a : Addr, a.add (0 : Int).toNat = a := fun a => by cases a; simp [Addr.add]
  rw [ha0] at e0 l0
  rw [show adl.add (1 : Int).toNat = ⟨adl.block, adl.off + 1, none⟩ by unfold Addr.add; simp] at l1
  clear ha0
  have HAW := Lib.hid (show AwW w (h1 + 1) (h1 + 1 + 1) h4 (some adi) ci Ao co adi A0 c0 adl ⟨adl.block, adl.off + 1, none⟩ L0 d0 L1 d1 w10 from ⟨heap_below HKF9.out HB10.out, heap_below HK9.out HB10.out, Kd.C_below HC9.out HB10.out, Kd.C_below HCO9.out HB10.out, e0, l0, l1, r0, r1, HB9.out.trans (HB10.out.mono HB9.out.size)⟩)
  have f1 : slices_Equal_int_int.f 10 [1] [1] = some true := by (show _ = _); kernel_rfl
  have f2 : slices_Equal_int_int.f 10 [0] [0] = some true := by (show _ = _); kernel_rfl
  have f3 : slices_Equal_int_int.f 10 [0, 1] [0, 1] = some true := by (show _ = _); kernel_rfl
  have hd0' : 1 ≤ d0 := hd0
  have hd1' : 1 ≤ d1 := hd1
  have E1 := Lib.hid (fun (W : World) (h : AwW w (h1 + 1) (h1 + 1 + 1) h4 (some adi) ci Ao co adi A0 c0 adl ⟨adl.block, adl.off + 1, none⟩ L0 d0 L1 d1 W) => aEq [1] (by decide) h.r0 hd0' f1)
  have E2 := Lib.hid (fun (W : World) (h : AwW w (h1 + 1) (h1 + 1 + 1) h4 (some adi) ci Ao co adi A0 c0 adl ⟨adl.block, adl.off + 1, none⟩ L0 d0 L1 d1 W) => aEq [0] (by decide) h.r1 hd1' f2)
  have E3 := Lib.hid (fun (W : World) (A : Option Addr) (c : Nat) (h : (Kd.int .i64).C W A 2 [0, 1]) (hc : 2 ≤ c) => aEq (L := A) (d := c) [0, 1] (by decide) h hc f3)
  have B1 := Lib.hid (fun (W : World) (h : AwW w (h1 + 1) (h1 + 1 + 1) h4 (some adi) ci Ao co adi A0 c0 adl ⟨adl.block, adl.off + 1, none⟩ L0 d0 L1 d1 W) => aBef (ci := ci) (Ai := some adi) h.cB h.cO HLO.out)
  clear f1 f2 f3 hd0 hd1 hd0' hd1' hc0 e0 l0 l1 r0 r1 HKF9 HK9 HC9 HCO9 HCI9 HCL HINF HB9 HB10
  have e0 := HAW.out.e0
  have l0 := HAW.out.l0
  have l1 := HAW.out.l1
  obtain ⟨y0, y1⟩ := cells2 HAW.out.b30
  obtain ⟨z0, z1, z2, z3⟩ := cells4 HAW.out.b25
  go_wp2_with (first
    | (go_at_call 14; have hx := HAW13.out; clear hx; refine (E3.out w13 A13 c13 HC13.out hc13).mono ?_; rintro e w14 ⟨rfl, hb14⟩; have HB14 := Lib.hid hb14; clear hb14)
    | (go_at_call 13; refine (B1.out w12 HAW12.out).mono ?_; rintro e w13 ⟨A13, c13, rfl, hc13, hC13, hb13⟩; have HC13 := Lib.hid hC13; have HAW13 := Lib.hid (HAW12.out.step hb13); clear hC13 hb13)
    | (go_at_call 14; have hx := HAW11.out; clear hx; refine (E2.out w11 HAW11.out).mono ?_; rintro e w12 ⟨rfl, hb12⟩; have HAW12 := Lib.hid (HAW11.out.step hb12); clear hb12 e0 l0 l1 y0 y1 z0 z1 z2 z3; have e0 := HAW12.out.e0; have l0 := HAW12.out.l0; have l1 := HAW12.out.l1; obtain ⟨y0, y1⟩ := cells2 HAW12.out.b30; obtain ⟨z0, z1, z2, z3⟩ := cells4 HAW12.out.b25)
    | (go_at_call 14; refine (E1.out w10 HAW.out).mono ?_; rintro e w11 ⟨rfl, hb11⟩; have HAW11 := Lib.hid (HAW.out.step hb11); clear hb11 e0 l0 l1 y0 y1 z0 z1 z2 z3; have e0 := HAW11.out.e0; have l0 := HAW11.out.l0; have l1 := HAW11.out.l1; obtain ⟨y0, y1⟩ := cells2 HAW11.out.b30; obtain ⟨z0, z1, z2, z3⟩ := cells4 HAW11.out.b25)
    | fail)
  go_ret
  exact ⟨rfl, HAW13.out.bw.trans (HB14.out.mono HAW13.out.bw.size)⟩
end Go.Proofs.Ythgodpmahdnnjaa
end
section
namespace Go.Proofs.Ythgodpmahdnnjaa
open Go.RowKit Go.Proofs.YthgodpmahdnnjaaW.PrintWords Go.Proofs.YthgodpmahdnnjaaW.PrintMore Go.Proofs.Ythgodpmahdnnjaa.H
theorem blk_four {w : World} {g : Nat} {t : TypeId} {a b c d : Value} (h : w.heap[g]? = some (.cells #[a, b, c, d] t (0, 0))) (u0 u1 u2 u3 : Value) :
    ((((w.setCell ⟨g, 0, none⟩ u0).setCell ⟨g, 1, none⟩ u1).setCell ⟨g, 2, none⟩ u2).setCell ⟨g, 3, none⟩ u3).heap[g]? = some (.cells #[u0, u1, u2, u3] t (0, 0)) :=
  blk_put (blk_put (blk_put (blk_put h 0 u0 rfl) 1 u1 rfl) 2 u2 rfl) 3 u3 rfl
theorem step_code {ops : Array Oper} {o : Oper} {a : Act} {K : Act → World → Prop} {Q : Exit → Act → World → Prop} {E : Prop} {w8 : World} {base : Nat} (v : Value) (xs : List S80) (p : S62) (hgd : o.guard = none) (s y : Operand)
    (ho : o.op = .call { callee := .builtin .append, args := #[s, y], argTypes := #[77, 77] }) (hs : a.eval s = v) (hx : a.eval y = .slice (some ⟨w8.heap.size, 0, none⟩) 1 1)
    (hR : k80.R 80 w8 base (fun _ => True) v xs) (hi : xs.length ≤ 1000) (hb : base ≤ w8.heap.size)
    (h : ∀ v1 w', k80.R 80 w' base (fun _ => True) v1 (xs ++ [refI p]) → w8.grownBy w' v.ownBlock → K (a.put o.dst v1) w') :
    if Region.wanted o (yielded ops a.tmps) = true then Oper.wp Try.prog o a (w8.alloc (.cells #[.int .u8 p.f0, .int .i64 p.f1, .int .i64 p.f2, .int .i64 p.f3, .int .i64 p.f4, .string p.f5] 80)) K Q else E := by
  obtain ⟨i0, hi0, hz0, hz1, hz2⟩ := info_parts (show (Try.prog.info? 80).map (fun i => (i.zero, i.size, i.bytes)) = some (some (.agg #[.int .u8 0, .int .i64 0, .int .i64 0, .int .i64 0, .int .i64 0, .string ⟨#[]⟩]), 6, 56) by kernel_rfl)
  obtain ⟨h0, inner, hown, hr⟩ := hR
  have hsz : (w8.alloc (.cells #[.int .u8 p.f0, .int .i64 p.f1, .int .i64 p.f2, .int .i64 p.f3, .int .i64 p.f4, .string p.f5] 80)).heap.size = w8.heap.size + 1 := alloc_size1 _ _
  refine step_append_lies _ hgd s y 77 ho base 80 i0 _ 6 56 Try.underlying77 hi0 hz0 hz1 hz2 rfl (by decide) v xs.length inner hs (hown.alloc _) ⟨w8.heap.size, 0, none⟩ 1 1 [.int .u8 p.f0, .int .i64 p.f1, .int .i64 p.f2, .int .i64 p.f3, .int .i64 p.f4, .string p.f5] hx rfl
    (World.news_of_block (cs := #[.int .u8 p.f0, .int .i64 p.f1, .int .i64 p.f2, .int .i64 p.f3, .int .i64 p.f4, .string p.f5]) (World.alloc_heap_new w8 _)) (fun u hu => by simp at hu; rcases hu with rfl | rfl | rfl | rfl | rfl | rfl <;> rfl) (by decide) (by simp [maxLen]; omega) (by omega) (by omega) _ rfl ?_
  intro g cap w' ho' hg' hat _
  have hg8 : w8.grownBy w' v.ownBlock := ⟨hg'.os, hg'.tape, hg'.output, by have := hg'.size; omega, fun k hk hne => (hg'.block k (by omega) hne).trans (Below.heap_alloc w8 _ k hk)⟩
  refine h _ w' (Kd.R_appended (okp := fun _ => False) h0 hr (k80_mkM w8 base _ (refI p)) (fun _ hk => hk.elim) (fun _ _ => trivial) ho' hg8 ?_) hg8
  rcases hat with hat | hat
  · exact .inl hat.symm
  · exact .inr ⟨g, rfl, by rw [hat, hsz]; omega⟩
theorem six_up {W W1 : World} {p : Addr} {a b c d e f : Value} (hb : W1.heap[p.block]? = W.heap[p.block]?) (h : W.cell? p = some a ∧ W.cell? ⟨p.block, p.off + 1, none⟩ = some b ∧ W.cell? ⟨p.block, p.off + 2, none⟩ = some c ∧ W.cell? ⟨p.block, p.off + 3, none⟩ = some d ∧ W.cell? ⟨p.block, p.off + 4, none⟩ = some e ∧ W.cell? ⟨p.block, p.off + 5, none⟩ = some f) :
    W1.cell? p = some a ∧ W1.cell? ⟨p.block, p.off + 1, none⟩ = some b ∧ W1.cell? ⟨p.block, p.off + 2, none⟩ = some c ∧ W1.cell? ⟨p.block, p.off + 3, none⟩ = some d ∧ W1.cell? ⟨p.block, p.off + 4, none⟩ = some e ∧ W1.cell? ⟨p.block, p.off + 5, none⟩ = some f :=
  ⟨(World.cell?_of_block hb).trans h.1, (World.cell?_of_block (a := ⟨p.block, p.off + 1, none⟩) hb).trans h.2.1, (World.cell?_of_block (a := ⟨p.block, p.off + 2, none⟩) hb).trans h.2.2.1, (World.cell?_of_block (a := ⟨p.block, p.off + 3, none⟩) hb).trans h.2.2.2.1, (World.cell?_of_block (a := ⟨p.block, p.off + 4, none⟩) hb).trans h.2.2.2.2.1, (World.cell?_of_block (a := ⟨p.block, p.off + 5, none⟩) hb).trans h.2.2.2.2.2⟩
set_option maxHeartbeats 8000000 in
set_option maxRecDepth 100000 in
theorem Plain_calls (nm : ByteArray) (R : Int) (A2 : Option Addr) (n2 c2 : Nat) (A3 : Option Addr) (c3 : Nat) (B : List S43) (w : World) (hC3 : k43.C w A3 B.length B) (hn : B.length ≤ 1000) (hcode : ∀ x ∈ B, x.f0.length ≤ 1000) :
    Calls Try.prog 11 #[.agg #[.string nm, .int .i64 R, .slice A2 n2 c2, .slice A3 B.length c3]] w
      fun e w' => ∃ A c, e = .returned (.agg #[.string nm, .int .i64 R, .slice A2 n2 c2, .slice A B.length c]) ∧ B.length ≤ c ∧ k79.C w' A B.length (B.map refB) ∧ Below w.heap.size w w' := by
  have HC3 := Lib.hid hC3
  have HCO := Lib.hid hcode
  clear hC3 hcode
  go_enter Try.func11, Try.ntmps11
  go_upto_region 2 with (first
    | ((with_reducible refine gate_dst (N := 1) rfl ?_); refine box_event ?hg (N := 1) ?hd (cs := #[.string nm, .int .i64 R, .slice A2 n2 c2, .slice A3 B.length c3]) (t := 25) ?hr ?_; (case hd => rfl); (case hg => rfl); (case hr => first | (go_simp; done) | (go_simp; rfl)); intro g1 hg1 w1 hbox1 hbw1; obtain ⟨z0, z1, z2, z3⟩ := cells4 hbox1; have BK1 := Lib.hid hbox1; have HBW1 := Lib.hid hbw1; have HG1 := Lib.hid hg1; clear hbox1 hbw1 hg1)
    | ((with_reducible refine gate_dst (N := 2) rfl ?_); refine box_event ?hg (N := 2) ?hd (cs := #[.string ⟨#[]⟩, .int .i64 0, .slice none 0 0, .slice none 0 0]) (t := 36) ?hr ?_; (case hd => rfl); (case hg => rfl); (case hr => first | (go_simp; done) | (go_simp; rfl)); intro g2 hg2 w2 hbox2 hbw2; have BK2 := Lib.hid hbox2; have BK12 := Lib.hid (heap_below BK1.out hbw2); have HBW2 := Lib.hid hbw2; have HG2 := Lib.hid hg2; clear hbox2 hbw2 hg2 z0 z1 z2 z3; obtain ⟨z0, z1, z2, z3⟩ := cells4 BK12.out)
    | ((with_reducible refine gate_dst (N := 3) rfl ?_); refine box_event ?hg (N := 3) ?hd (cs := #[.string ⟨#[]⟩, .int .i64 0, .slice none 0 0, .slice none 0 0]) (t := 36) ?hr ?_; (case hd => rfl); (case hg => rfl); (case hr => first | (go_simp; done) | (go_simp; rfl)); intro g3 hg3 w3 hbox3 hbw3; have BK3 := Lib.hid hbox3; have HBW3 := Lib.hid hbw3; have HG3 := Lib.hid hg3; have f0 := blk_frozen hbox3 0; have f1 := blk_frozen hbox3 1; have f2 := blk_frozen hbox3 2; have f3 := blk_frozen hbox3 3; obtain ⟨y0, y1, y2, y3⟩ := cells4 hbox3; clear hbox3 hbw3 hg3)
    | fail)
  have hg3l : w.heap.size ≤ g3 := by rw [HG3.out]; exact (HBW1.out.trans (HBW2.out.mono HBW1.out.size)).size
  have hg2l : w.heap.size ≤ g2 := by rw [HG2.out]; exact HBW1.out.size
  obtain ⟨w4, hw4⟩ : ∃ w4, w4 = ((((w3.setCell ⟨g3, 0, none⟩ (.string nm)).setCell ⟨g3, 1, none⟩ (.int .i64 R)).setCell ⟨g3, 2, none⟩ (.slice A2 n2 c2)).setCell ⟨g3, 3, none⟩ (.slice none 0 0)) := ⟨_, rfl⟩
  rw [← hw4]
  have hb03 : Below w.heap.size w w3 := HBW1.out.trans ((HBW2.out.trans (HBW3.out.mono HBW2.out.size)).mono HBW1.out.size)
  have hb4 : Below w.heap.size w w4 := by
    rw [hw4]
    exact ((((hb03).setCell (p := ⟨g3, 0, none⟩) hg3l _).setCell (p := ⟨g3, 1, none⟩) hg3l _).setCell (p := ⟨g3, 2, none⟩) hg3l _).setCell (p := ⟨g3, 3, none⟩) hg3l _
  have hk3 : w4.heap[g3]? = some (.cells #[.string nm, .int .i64 R, .slice A2 n2 c2, .slice none 0 0] 36 (0, 0)) := by rw [hw4]; exact blk_four BK3.out _ _ _ _
  have hbw2' : Below w2.heap.size w2 w4 := by
    rw [hw4]
    have hg3' : w2.heap.size ≤ g3 := by rw [HG3.out]; exact Nat.le_refl _
    exact ((((HBW3.out).setCell (p := ⟨g3, 0, none⟩) hg3' _).setCell (p := ⟨g3, 1, none⟩) hg3' _).setCell (p := ⟨g3, 2, none⟩) hg3' _).setCell (p := ⟨g3, 3, none⟩) hg3' _
  have hk1 := heap_below BK12.out hbw2'
  have hk2 := heap_below BK2.out hbw2'
  have h23 : g2 ≠ g3 := by have := heap_lt BK2.out; rw [HG3.out]; omega
  have HB4 := Lib.hid hb4
  have HK1 := Lib.hid hk1
  have HK2 := Lib.hid hk2
  have HK3 := Lib.hid hk3
  have H23 := Lib.hid h23
  have HG2L := Lib.hid hg2l
  have HG3L := Lib.hid hg3l
  clear hw4 hb03 hb4 hk3 hbw2' hk1 hk2 h23 hg2l hg3l HG1 HG2 HG3 BK1 BK2 BK3 BK12 HBW1 HBW2 HBW3 z0 z1 z2 z3 y0 y1 y2 y3 f0 f1 f2 f3
  go_wp2
  go_loopw [4] (fun v wr => ∃ (i : Nat) (v3 : Value), i ≤ B.length ∧ v = .int .i64 i ∧ k79.R 79 wr w.heap.size (fun _ => True) v3 ((B.take i).map refB) ∧ wr.heap[g1]? = some (.cells #[.string nm, .int .i64 R, .slice A2 n2 c2, .slice A3 B.length c3] 25 (0, 0)) ∧ wr.heap[g2]? = some (.cells #[.string ⟨#[]⟩, .int .i64 0, .slice none 0 0, .slice none 0 0] 36 (0, 0)) ∧ wr.heap[g3]? = some (.cells #[.string nm, .int .i64 R, .slice A2 n2 c2, v3] 36 (0, 0)) ∧ Below w.heap.size w wr) (fun v _ => B.length - (intOf v).toNat)
  case atStart => exact ⟨0, _, Nat.zero_le _, rfl, Kd.R_nil _ _ _ _ _, HK1.out, HK2.out, HK3.out, HB4.out⟩
  case round =>
    clear HK1 HK2 HK3 HB4
    obtain ⟨i, v3, hi, rfl, hR3, hk1, hk2, hk3, hb⟩ := hrel
    obtain ⟨wo, rfl⟩ : ∃ wo, wo = wr := ⟨_, rfl⟩
    obtain ⟨z0, z1, z2, z3⟩ := cells4 hk1
    obtain ⟨y0, y1, y2, y3⟩ := cells4 hk3
    by_cases hlt : i < B.length
    · obtain ⟨ad, A0, c0, hA3, q0, q1, q2, q3, q4, hl0, hC0⟩ := at_T43 (Kd.C_below HC3.out hb) (i : Int) (by omega) (by omega)
      subst hA3
      rw [Int.toNat_natCast] at q0 q1 q2 q3 q4
      have hrd : rd_T43 B (i : Int) = B.getD i z43 := by unfold rd_T43; rw [Int.toNat_natCast]
      rw [hrd] at q0 q1 q2 q3 q4 hl0 hC0
      have hmem := memB hlt
      have hstep : (B.take (i + 1)).map refB = (B.take i).map refB ++ [refB (B.getD i z43)] := by
        rw [List.take_succ_eq_append_getElem hlt, List.map_append, List.getD_eq_getElem?_getD, List.getElem?_eq_getElem hlt]; rfl
      obtain ⟨x, hx⟩ : ∃ x, x = B.getD i z43 := ⟨_, rfl⟩
      rw [← hx] at q0 q1 q2 q3 q4 hl0 hC0 hstep hmem
      have hcl := HCO.out x hmem
      have q1' : wo.cell? ⟨(ad.add (i * 5)).block, (ad.add (i * 5)).off + 1, none⟩ = some (.int .u8 x.f1) := q1
      have q2' : wo.cell? ⟨(ad.add (i * 5)).block, (ad.add (i * 5)).off + 2, none⟩ = some (.int .i64 x.f2) := q2
      have q3' : wo.cell? ⟨(ad.add (i * 5)).block, (ad.add (i * 5)).off + 3, none⟩ = some (.int .i64 x.f3) := q3
      have q4' : wo.cell? ⟨(ad.add (i * 5)).block, (ad.add (i * 5)).off + 4, none⟩ = some (.int .i64 x.f4) := q4
      have HC0 := Lib.hid hC0
      have HST := Lib.hid hstep
      have HR3 := Lib.hid hR3
      have HK1 := Lib.hid hk1
      have HK2 := Lib.hid hk2
      have HK3 := Lib.hid hk3
      have HB := Lib.hid hb
      clear hC0 hstep hR3 hk1 hk2 hk3 hb hrd hx hmem q1 q2 q3 q4 y0 y1 y2 y3
      go_upto_region 6 with (first
        | ((with_reducible refine gate_dst (N := 5) rfl ?_); refine box_event ?hg (N := 5) ?hd (cs := #[.slice none 0 0, .int .u8 0, .int .i64 0, .int .i64 0, .int .i64 0]) (t := 43) ?hr ?_; (case hd => rfl); (case hg => rfl); (case hr => first | (go_simp; done) | (go_simp; rfl)); intro g5 hg5 w5 hbox5 hbw5; obtain ⟨y0, y1, y2, y3, y4⟩ := cells5 hbox5; have f0 := blk_frozen hbox5 0; have f1 := blk_frozen hbox5 1; have f2 := blk_frozen hbox5 2; have f3 := blk_frozen hbox5 3; have f4 := blk_frozen hbox5 4; have BK5 := Lib.hid hbox5; have HBW5 := Lib.hid hbw5; have HG5 := Lib.hid hg5; clear hbox5 hbw5 hg5)
        | fail)
      have hg5l : wo.heap.size ≤ g5 := by rw [HG5.out]; exact Nat.le_refl _
      obtain ⟨w6, hw6⟩ : ∃ w6, w6 = (((((w5.setCell ⟨g5, 0, none⟩ (.slice A0 x.f0.length c0)).setCell ⟨g5, 1, none⟩ (.int .u8 x.f1)).setCell ⟨g5, 2, none⟩ (.int .i64 x.f2)).setCell ⟨g5, 3, none⟩ (.int .i64 x.f3)).setCell ⟨g5, 4, none⟩ (.int .i64 x.f4)) := ⟨_, rfl⟩
      have hb6 : Below wo.heap.size wo w6 := by
        rw [hw6]
        exact ((((HBW5.out.setCell (p := ⟨g5, 0, none⟩) hg5l _).setCell (p := ⟨g5, 1, none⟩) hg5l _).setCell (p := ⟨g5, 2, none⟩) hg5l _).setCell (p := ⟨g5, 3, none⟩) hg5l _).setCell (p := ⟨g5, 4, none⟩) hg5l _
      have hk6 : w6.heap[g5]? = some (.cells #[.slice A0 x.f0.length c0, .int .u8 x.f1, .int .i64 x.f2, .int .i64 x.f3, .int .i64 x.f4] 43 (0, 0)) := by rw [hw6]; exact blk_five BK5.out _ _ _ _ _
      rw [← hw6]
      have HB6 := Lib.hid hb6
      have HK56 := Lib.hid hk6
      clear hw6 hb6 hk6 hg5l y0 y1 y2 y3 y4 f0 f1 f2 f3 f4 q0 q1' q2' q3' q4' BK5 HBW5 HG5 z0 z1 z2 z3
      obtain ⟨y0, y1, y2, y3, y4⟩ := cells5 HK56.out
      go_upto_region 7 with (first
        | ((with_reducible refine gate_dst (N := 6) rfl ?_); refine box_event ?hg (N := 6) ?hd (cs := #[.slice none 0 0, .int .u8 0, .int .i64 0, .int .i64 0, .int .i64 0]) (t := 79) ?hr ?_; (case hd => rfl); (case hg => rfl); (case hr => first | (go_simp; done) | (go_simp; rfl)); intro g6 hg6 w7 hbox7 hbw7; obtain ⟨s0, s1, s2, s3, s4⟩ := cells5 hbox7; have f0 := blk_frozen hbox7 0; have f1 := blk_frozen hbox7 1; have f2 := blk_frozen hbox7 2; have f3 := blk_frozen hbox7 3; have f4 := blk_frozen hbox7 4; have BK7 := Lib.hid hbox7; have HBW7 := Lib.hid hbw7; have HG6 := Lib.hid hg6; clear hbox7 hbw7 hg6)
        | fail)
      have hg6l : w6.heap.size ≤ g6 := by rw [HG6.out]; exact Nat.le_refl _
      obtain ⟨w8, hw8⟩ : ∃ w8, w8 = (((((w7.setCell ⟨g6, 0, none⟩ (.slice none 0 0)).setCell ⟨g6, 1, none⟩ (.int .u8 x.f1)).setCell ⟨g6, 2, none⟩ (.int .i64 x.f2)).setCell ⟨g6, 3, none⟩ (.int .i64 x.f3)).setCell ⟨g6, 4, none⟩ (.int .i64 x.f4)) := ⟨_, rfl⟩
      have hb8 : Below w6.heap.size w6 w8 := by
        rw [hw8]
        exact ((((HBW7.out.setCell (p := ⟨g6, 0, none⟩) hg6l _).setCell (p := ⟨g6, 1, none⟩) hg6l _).setCell (p := ⟨g6, 2, none⟩) hg6l _).setCell (p := ⟨g6, 3, none⟩) hg6l _).setCell (p := ⟨g6, 4, none⟩) hg6l _
      have hk8 : w8.heap[g6]? = some (.cells #[.slice none 0 0, .int .u8 x.f1, .int .i64 x.f2, .int .i64 x.f3, .int .i64 x.f4] 79 (0, 0)) := by rw [hw8]; exact blk_five BK7.out _ _ _ _ _
      rw [← hw8]
      have hb08 : Below wo.heap.size wo w8 := HB6.out.trans (hb8.mono HB6.out.size)
      have HB08 := Lib.hid hb08
      have HK58 := Lib.hid (heap_below HK56.out hb8)
      have HK8 := Lib.hid hk8
      have h56 : g5 ≠ g6 := by have := heap_lt HK56.out; omega
      have h6w : wo.heap.size ≤ g6 := Nat.le_trans HB6.out.size hg6l
      have H56 := Lib.hid h56
      have H6W := Lib.hid h6w
      clear hw8 hb8 hk8 hb08 h56 hg6l h6w y0 y1 y2 y3 y4 s0 s1 s2 s3 s4 f0 f1 f2 f3 f4 BK7 HBW7 HG6 HB6 HK56
      go_wp2
      go_loopw [7] (fun v wq => ∃ (j : Nat) (v6 : Value), j ≤ x.f0.length ∧ v = .int .i64 j ∧ k80.R 80 wq w8.heap.size (fun _ => True) v6 ((x.f0.take j).map refI) ∧ wq.heap[g6]? = some (.cells #[v6, .int .u8 x.f1, .int .i64 x.f2, .int .i64 x.f3, .int .i64 x.f4] 79 (0, 0)) ∧ Kept w8 wq (fun k => k = g6) ∧ Below wo.heap.size wo wq) (fun v _ => x.f0.length - (intOf v).toNat)
      case atStart => exact ⟨0, _, Nat.zero_le _, rfl, Kd.R_nil _ _ _ _ _, HK8.out, Kept.refl _ _, HB08.out⟩
      case round =>
        obtain ⟨j, v6, hj, rfl, hR6, hk6, hkq, hbq⟩ := hrel
        obtain ⟨wq, rfl⟩ : ∃ wq, wq = wr := ⟨_, rfl⟩
        have hk5 : wq.heap[g5]? = _ := (hkq.2 g5 (heap_lt HK58.out) H56.out).trans HK58.out
        obtain ⟨y0, y1, y2, y3, y4⟩ := cells5 hk5
        obtain ⟨s0, s1, s2, s3, s4⟩ := cells5 hk6
        by_cases hjl : j < x.f0.length
        · obtain ⟨ax, hA0, i0, i1, i2, i3, i4, i5⟩ := at_T62 HC0.out (j : Int) (by omega) (by omega)
          subst hA0
          rw [Int.toNat_natCast] at i0 i1 i2 i3 i4 i5
          have hrd : rd_T62 x.f0 (j : Int) = x.f0.getD j z62 := by unfold rd_T62; rw [Int.toNat_natCast]
          rw [hrd] at i0 i1 i2 i3 i4 i5
          have hst : (x.f0.take (j + 1)).map refI = (x.f0.take j).map refI ++ [refI (x.f0.getD j z62)] := by
            rw [List.take_succ_eq_append_getElem hjl, List.map_append, List.getD_eq_getElem?_getD, List.getElem?_eq_getElem hjl]; rfl
          have hjn : ((x.f0.take j).map refI).length ≤ 1000 := by rw [List.length_map, List.length_take]; omega
          obtain ⟨y, hy⟩ : ∃ y, y = x.f0.getD j z62 := ⟨_, rfl⟩
          rw [← hy] at i0 i1 i2 i3 i4 i5 hst
          obtain ⟨cds, hcds⟩ : ∃ cds, cds = (x.f0.take j).map refI := ⟨_, rfl⟩
          rw [← hcds] at hR6 hst hjn
          obtain ⟨px, hpx⟩ : ∃ px, px = ax.add (j * 6) := ⟨_, rfl⟩
          rw [← hpx] at i0 i1 i2 i3 i4 i5
          have hpl : px.block < wo.heap.size := World.block_lt_of_cell? wo _ i0
          have hpg : px.block ≠ g6 := by have := H6W.out; omega
          have hsix := six_up (hbq.block px.block hpl) ⟨i0, i1, i2, i3, i4, i5⟩
          have hsixa := six_up (Below.heap_alloc wq (.cells #[.int .u8 y.f0, .int .i64 y.f1, .int .i64 y.f2, .int .i64 y.f3, .int .i64 y.f4, .string y.f5] 80) px.block (by have := hbq.size; omega)) hsix
          have hsy := hbq.size
          have hn5 : some g5 ≠ v6.ownBlock := fun e => by have h1 := Kd.R_base hR6 g5 e.symm; have h2 := heap_lt HK58.out; omega
          have hn6 : some g6 ≠ v6.ownBlock := fun e => by have h1 := Kd.R_base hR6 g6 e.symm; have h2 := heap_lt HK8.out; omega
          have hnp : some px.block ≠ v6.ownBlock := fun e => by have h1 := Kd.R_base hR6 px.block e.symm; have h2 := HB08.out.size; omega
          have hl5 := heap_lt hk5
          have hl6 := heap_lt hk6
          have HSIX := Lib.hid hsix
          have HSI := Lib.hid hst
          have HR6 := Lib.hid hR6
          have HK5 := Lib.hid hk5
          have HK6 := Lib.hid hk6
          have HKQ := Lib.hid hkq
          have HBQ := Lib.hid hbq
          obtain ⟨i0', i1', i2', i3', i4', i5'⟩ := hsix
          obtain ⟨j0, j1, j2, j3, j4, j5⟩ := hsixa
          have y0a := cell_up y0 ((Below.refl wq.heap.size wq).alloc (Nat.le_refl _) (.cells #[.int .u8 y.f0, .int .i64 y.f1, .int .i64 y.f2, .int .i64 y.f3, .int .i64 y.f4, .string y.f5] 80))
          have s0a := cell_up s0 ((Below.refl wq.heap.size wq).alloc (Nat.le_refl _) (.cells #[.int .u8 y.f0, .int .i64 y.f1, .int .i64 y.f2, .int .i64 y.f3, .int .i64 y.f4, .string y.f5] 80))
          clear hst hR6 hk6 hkq hbq hk5 hy hcds hrd i0 i1 i2 i3 i4 i5
          go_upto_region 10 with fail
          subst hpx
          have HRD := Lib.hid (Kd.R_below HR6.out (Below.refl _ wq).drew)
          have hb8q : w8.heap.size ≤ wq.drew.heap.size := HKQ.out.1
          go_region_law
            (first
            | (refine step_code (w8 := wq.drew) v6 cds y rfl _ _ rfl rfl rfl HRD.out hjn hb8q ?_; intro v9 w9 hR9 hg9; obtain ⟨A9, c9, rfl⟩ := Kd.R_slice hR9; have h6 := hg9.block (ax.add (j * 6)).block (Nat.lt_of_lt_of_le hpl hsy) hnp; obtain ⟨k0, k1, k2, k3, k4, k5⟩ := six_up h6 HSIX.out; have k5b := (hg9.block g5 hl5 hn5).trans HK5.out; have k6b := (hg9.block g6 hl6 hn6).trans HK6.out; have n5 := (blk_cell k5b 0).trans rfl; have n6 := (blk_cell k6b 0).trans rfl; have fr := blk_frozen k6b 0; obtain ⟨t0, t1, t2, t3, t4, t5⟩ := six_up (Below.heap_setCell w9 ⟨g6, 0, none⟩ (.slice A9 (cds.length + 1) c9) (ax.add (j * 6)).block hpg) ⟨k0, k1, k2, k3, k4, k5⟩; have o5 := (World.cell?_of_block (a := ⟨g5, 0, none⟩) (Below.heap_setCell w9 ⟨g6, 0, none⟩ (.slice A9 (cds.length + 1) c9) g5 H56.out)).trans n5; have HK9 := Lib.hid k6b; have HR9 := Lib.hid hR9; have HG9 := Lib.hid hg9; clear hR9 hg9 h6 k5b k6b)
            | fail)
          all_goals
            have hty : ∀ q, q ∈ 80 :: k80.E → q ≠ 79 := by decide
            have HX1 := Lib.hid (Kd.R_set HR9.out HK9.out hty 0 (.slice A9 (cds.length + 1) c9))
            have HX2 := Lib.hid (blk_put HK9.out 0 (.slice A9 (cds.length + 1) c9) rfl)
            have HX3 := Lib.hid (((HKQ.out.drew).of_grown HG9.out (fun k hk => .inr (Kd.R_base HR6.out k hk))).setCell (p := ⟨g6, 0, none⟩) (.inl rfl) (.slice A9 (cds.length + 1) c9))
            have HX4 := Lib.hid ((HBQ.out.drew.grown HG9.out HBQ.out.size (fun k hk => Nat.le_trans HB08.out.size (Kd.R_base HR6.out k hk))).setCell (p := ⟨g6, 0, none⟩) H6W.out (.slice A9 (cds.length + 1) c9))
            clear hty
            rw [show (cds ++ [refI y]).length = cds.length + 1 by simp] at HX1
            go_wp2_with fail
            go_roundw
            case rel => exact ⟨j + 1, _, by omega, by go_num, HSI.out ▸ HX1.out, HX2.out, HX3.out, HX4.out⟩
            case measure => simp [intOf]; omega
        · have e : j = x.f0.length := by omega
          rw [e, List.take_length] at hR6
          subst e
          obtain ⟨A6, c6, rfl⟩ := Kd.R_slice hR6
          rw [List.length_map] at hR6 hk6 s0
          have hlt8 := HB08.out.size
          have hww := HB.out.size
          have hk3q := heap_below HK3.out hbq
          obtain ⟨z0, z1, z2, z3⟩ := cells4 hk3q
          have f3 := blk_frozen hk3q 3
          have HI := Lib.hid (show (Try.prog.info? 79).map (fun i => (i.zero, i.size, i.bytes)) = some (some (.agg #[.slice none 0 0, .int .u8 0, .int .i64 0, .int .i64 0, .int .i64 0]), 5, 56) by kernel_rfl)
          have HP := Lib.hid (k79_mkM wq w.heap.size (fun k => w8.heap.size ≤ k) (refB x) (Kd.R_lower (Kd.R_mono (Kd.R_bound hR6) (fun k hk => hk.2.1)) (Nat.le_trans hww hlt8)))
          have HOKP := Lib.hid (show ∀ k, w8.heap.size ≤ k → True ∧ some k ≠ v3.ownBlock from fun k hk => ⟨trivial, fun e => by have := Kd.R_lt HR3.out k e.symm; omega⟩)
          have HO := Lib.hid (Kd.R_below HR3.out hbq)
          have HBQ := Lib.hid (HB.out.trans (hbq.mono HB.out.size))
          have HBO := Lib.hid hbq
          have hli : (((B.take i).map refB).length + 1) * 56 ≤ 140737488355328 := by rw [List.length_map, List.length_take]; omega
          have HK3Q := Lib.hid hk3q
          clear hk3q hk6 hkq hk5 hbq hR6
          go_wp2_with (first
            | (at_builtin; refine Kd.R_append k79 (w0 := w) w.heap.size rfl _ _ 34 79 _ 56 rfl Try.underlying34 HI.out rfl (by decide) (by decide) v3 ((B.take i).map refB) (refB x) [.slice A6 x.f0.length c6, .int .u8 x.f1, .int .i64 x.f2, .int .i64 x.f3, .int .i64 x.f4] (fun _ => True) (fun k => w8.heap.size ≤ k) rfl rfl HP.out HOKP.out (fun _ _ => trivial) HO.out HBQ.out HBQ.out.size hli ?_; intro v9 w9 hR9 hb9 hg9 _; obtain ⟨A9, c9, rfl⟩ := Kd.R_slice hR9; have hne3 := Kd.R_ne HO.out HK3Q.out (by decide); have k3 := (hg9.block g3 (heap_lt HK3Q.out) hne3).trans HK3Q.out; obtain ⟨t0, t1, t2, t3⟩ := cells4 k3; have f3' := blk_frozen k3 3; have HK39 := Lib.hid k3; have HR9 := Lib.hid hR9; have HG9 := Lib.hid hg9; have HB9 := Lib.hid hb9; clear hR9 hg9 hb9 k3)
            | fail)
          have hln : ((B.take i).map refB ++ [refB x]).length = i + 1 := by rw [List.length_append, List.length_map, List.length_take, List.length_singleton]; omega
          rw [hln] at HR9
          have hty : ∀ q, q ∈ 79 :: k79.E → q ≠ 36 := by decide
          have h1q := heap_below HK1.out HBO.out
          have h2q := heap_below HK2.out HBO.out
          have h1n := (HG9.out.block g1 (heap_lt h1q) (Kd.R_ne HO.out h1q (by decide))).trans h1q
          have h2n := (HG9.out.block g2 (heap_lt h2q) (Kd.R_ne HO.out h2q (by decide))).trans h2q
          have h13 : g1 ≠ g3 := blk_ne HK1.out HK3.out (by decide)
          have HX1 := Lib.hid (Kd.R_set HR9.out HK39.out hty 3 (.slice A9 (i + 1) c9))
          have HX2 := Lib.hid ((Below.heap_setCell w9 ⟨g3, 3, none⟩ (.slice A9 (i + 1) c9) g1 h13).trans h1n)
          have HX3 := Lib.hid ((Below.heap_setCell w9 ⟨g3, 3, none⟩ (.slice A9 (i + 1) c9) g2 H23.out).trans h2n)
          have HX4 := Lib.hid (blk_put HK39.out 3 (.slice A9 (i + 1) c9) rfl)
          have HX5 := Lib.hid (HB9.out.setCell (p := ⟨g3, 3, none⟩) HG3L.out (.slice A9 (i + 1) c9))
          clear hty h1q h2q h1n h2n h13 hln
          go_roundw
          case rel => exact ⟨i + 1, _, by omega, by go_num, HST.out ▸ HX1.out, HX2.out, HX3.out, HX4.out, HX5.out⟩
          case measure => simp [intOf]; omega
    · have e : i = B.length := by omega
      rw [e, List.take_length] at hR3
      subst e
      obtain ⟨A, c, rfl, hl, hC⟩ := Kd.R_reads hR3
      rw [List.length_map] at *
      have f0 := blk_frozen hk2 0
      have f1 := blk_frozen hk2 1
      have f2 := blk_frozen hk2 2
      have f3 := blk_frozen hk2 3
      obtain ⟨x0, x1, x2, x3⟩ := cells4 hk2
      have HC := Lib.hid hC
      have HR3 := Lib.hid hR3
      have HB := Lib.hid hb
      have HK2 := Lib.hid hk2
      clear hC hR3 hb hk2 hk1 hk3
      go_wp2
      have hty : ∀ q, q ∈ 79 :: k79.E → q ≠ 36 := by decide
      have hkz := blk_four HK2.out (.string nm) (.int .i64 R) (.slice A2 n2 c2) (.slice A B.length c)
      have hR4 := Kd.R_set (Kd.R_set (Kd.R_set (Kd.R_set HR3.out HK2.out hty 0 (.string nm)) (blk_put HK2.out 0 (.string nm) rfl) hty 1 (.int .i64 R)) (blk_put (blk_put HK2.out 0 (.string nm) rfl) 1 (.int .i64 R) rfl) hty 2 (.slice A2 n2 c2)) (blk_put (blk_put (blk_put HK2.out 0 (.string nm) rfl) 1 (.int .i64 R) rfl) 2 (.slice A2 n2 c2) rfl) hty 3 (.slice A B.length c)
      have HBZ := Lib.hid ((((HB.out.setCell (p := ⟨g2, 0, none⟩) HG2L.out (.string nm)).setCell (p := ⟨g2, 1, none⟩) HG2L.out (.int .i64 R)).setCell (p := ⟨g2, 2, none⟩) HG2L.out (.slice A2 n2 c2)).setCell (p := ⟨g2, 3, none⟩) HG2L.out (.slice A B.length c))
      obtain ⟨wz, hwz⟩ : ∃ wz, wz = ((((wo.setCell ⟨g2, 0, none⟩ (.string nm)).setCell ⟨g2, 1, none⟩ (.int .i64 R)).setCell ⟨g2, 2, none⟩ (.slice A2 n2 c2)).setCell ⟨g2, 3, none⟩ (.slice A B.length c)) := ⟨_, rfl⟩
      rw [← hwz] at hkz hR4 HBZ ⊢
      have HRZ := Lib.hid hR4
      clear hwz hR4 hty x0 x1 x2 x3 f0 f1 f2 f3 z0 z1 z2 z3 y0 y1 y2 y3
      obtain ⟨x0, x1, x2, x3⟩ := cells4 hkz
      (try simp only [Exit.inBlock, Exit.then])
      refine bodyPost_ret (v := .agg #[.string nm, .int .i64 R, .slice A2 n2 c2, .slice A B.length c]) ?hr rfl ?_
      case hr =>
        unfold results
        rw [show Try.f11.results = #[.cell 2 36] from rfl]
        simp
        go_simp
      obtain ⟨_, hlz, hCz⟩ := Kd.R_reads' HRZ.out
      rw [List.length_map] at hCz
      exact ⟨A, c, rfl, hlz, hCz, HBZ.out⟩
end Go.Proofs.Ythgodpmahdnnjaa
end
section
namespace Go.Proofs.Ythgodpmahdnnjaa
open Go.RowKit Go.Proofs.YthgodpmahdnnjaaW.PrintWords Go.Proofs.YthgodpmahdnnjaaW.PrintMore Go.Proofs.Ythgodpmahdnnjaa.H
theorem mem_listN {m r : Nat} {N : Nat} (hN : N ≤ 40) (hm : m < 2 ^ N) : (r : Int) ∈ listN m ↔ m.testBit r = true := by
  unfold listN
  constructor
  · intro h
    obtain ⟨a, ha, he⟩ := List.mem_map.1 h
    have : a = r := by omega
    subst this
    exact (List.mem_filter.1 ha).2
  · intro h
    refine List.mem_map.2 ⟨r, List.mem_filter.2 ⟨List.mem_range.2 ?_, h⟩, rfl⟩
    rcases Nat.lt_or_ge r N with h1 | h1
    · omega
    · rw [Nat.testBit_lt_two_pow (Nat.lt_of_lt_of_le hm (Nat.pow_le_pow_right (by decide) h1))] at h; cases h
theorem addL_listN {m N : Nat} (hN : N ≤ 40) (hm : m < 2 ^ N) : addL 0 (regsIn N (listN m)) = m := by
  apply Nat.eq_of_testBit_eq
  intro r
  have h0 : ∀ q ∈ regsIn N (listN m), 0 ≤ q := fun q hq => (listN_mem hm (List.mem_filter.1 hq).1).1
  rw [addL_bit _ _ _ h0, Nat.zero_testBit, Bool.false_or, Bool.eq_iff_iff, List.contains_iff_mem, ← mem_listN hN hm]
  unfold regsIn
  constructor
  · exact fun h => (List.mem_filter.1 h).1
  · intro h
    have := listN_mem hm h
    exact List.mem_filter.2 ⟨h, by simp; omega⟩
section
variable {nm : ByteArray} {ar : List S107} {B : List S43} {N : Nat} {I O : Nat → Nat}
theorem bef_pt (hB : OkF N B) (hN : N ≤ 30) (h : SI N B I O []) {b i : Nat} (hb : b < B.length) (hi : i ≤ (B.getD b z43).f0.length) :
    befoR N B (lstN O B.length) b i = listN (((B.getD b z43).f0.drop i).foldr befN (endN (B.getD b z43) (O b))) := by
  have hw : wfB N B = true := (wfB_iff N B).2 ⟨N, rfl, by omega, hB⟩
  unfold befoR
  rw [if_pos ⟨hw, by omega, by omega, by rw [lstN_length]; omega, by omega, by rw [Int.toNat_natCast]; omega⟩, Int.toNat_natCast, Int.toNat_natCast, Int.toNat_natCast, lstN_get O hb, addL_listN (by omega) (h.lt b hb).2]
end
section
variable {w0 : World} {nm : ByteArray} {N : Nat} {A2 : Option Addr} {ar : List S107} {c2 : Nat} {A3 : Option Addr} {c3 : Nat} {B : List S43} {Ai : Option Addr} {ci : Nat} {Ao : Option Addr} {co : Nat} {Am : Option Addr} {cm : Nat} {I O : Nat → Nat} {gf gs gm : Nat} {W W1 : World}
end
end Go.Proofs.Ythgodpmahdnnjaa
end
section
namespace Go.Proofs.Ythgodpmahdnnjaa
open Go.RowKit Go.Proofs.YthgodpmahdnnjaaW.PrintWords Go.Proofs.YthgodpmahdnnjaaW.PrintMore Go.Proofs.Ythgodpmahdnnjaa.H
theorem succ_lt {R : Nat} {B : List S43} (h : OkF R B) {b t : Nat} (hb : b < B.length) (ht : (t : Int) ∈ succL (B.getD b z43)) : t < B.length := by
  have := (h.b _ (memB hb)).succ _ ht
  omega
section
variable {B : List S43} {N : Nat} {I O I' O' : Nat → Nat}
end
end Go.Proofs.Ythgodpmahdnnjaa
end
section
namespace Go.Proofs.Ythgodpmahdnnjaa
open Go.RowKit Go.Proofs.YthgodpmahdnnjaaW.PrintWords Go.Proofs.YthgodpmahdnnjaaW.PrintMore Go.Proofs.Ythgodpmahdnnjaa.H
theorem befAny (nm : ByteArray) (N : Nat) (A2 : Option Addr) (n2 c2 : Nat) (A3 : Option Addr) (c3 : Nat) (B : List S43) (Ai : Option Addr) (ci : Nat) (Ao : Option Addr) (co n : Nat) (O : Nat → Nat) (W : World) (hn : B.length = n) (hB : k43.C W A3 n B) (hO : (Kd.slice 3 (Kd.int .i64)).C W Ao n (lstN O n)) (hc3 : n ≤ c3) (hco : n ≤ co) (hn1 : n ≤ 1000) (hcode : ∀ x ∈ B, x.f0.length ≤ 1000) (hN : N ≤ 30) (b i : Int) :
    Calls Try.prog 13 #[.agg #[.string nm, .int .i64 N, .slice A2 n2 c2, .slice A3 n c3], .agg #[.slice Ai n ci, .slice Ao n co], .int .i64 b, .int .i64 i] W fun e w' =>
    ∃ A c, e = .returned (.slice A (befoR N B (lstN O n) b i).length c) ∧ (befoR N B (lstN O n) b i).length ≤ c ∧ (Kd.int .i64).C w' A (befoR N B (lstN O n) b i).length (befoR N B (lstN O n) b i) ∧ Below W.heap.size W w' := by
  subst hn
  have hl := lstN_length O B.length
  have := Before_calls nm N A2 c2 n2 A3 c3 B Ai B.length ci Ao co (lstN O B.length) b i W hB hc3 hn1 hcode (by omega) (hl.symm ▸ hO) (by omega) (by omega) (fun x hx => by
    unfold lstN at hx
    obtain ⟨a, _, rfl⟩ := List.mem_map.1 hx
    exact Nat.le_trans (listN_le _) (by decide))
  rw [hl] at this
  refine this.mono ?_
  rintro e w' ⟨v, rfl, hR, hb⟩
  obtain ⟨A, c, rfl, hlc, hC⟩ := Kd.R_reads hR
  exact ⟨A, c, rfl, hlc, hC, hb⟩
section
variable {w0 : World} {nm : ByteArray} {N : Nat} {A2 : Option Addr} {n2 c2 : Nat} {A3 : Option Addr} {c3 : Nat} {B : List S43} {Ai : Option Addr} {ci : Nat} {Ao : Option Addr} {co : Nat} {O : Nat → Nat} {r : Int} {u : Bool} {Ac : Option Addr} {cc : Nat} {G : List S43} {Bi : Option Addr} {di : Nat} {Bo : Option Addr} {do_ : Nat} {O' : Nat → Nat} {gf gs gr gu gg gt : Nat} {W W1 : World}
theorem cell1 {w : World} {g : Nat} {a : Value} {t : TypeId} (h : w.heap[g]? = some (.cells #[a] t (0, 0))) : w.cell? ⟨g, 0, none⟩ = some a := (blk_cell h 0).trans rfl
end
end Go.Proofs.Ythgodpmahdnnjaa
end
section
namespace Go.Proofs.Ythgodpmahdnnjaa
open Go.RowKit Go.Proofs.YthgodpmahdnnjaaW.PrintWords Go.Proofs.YthgodpmahdnnjaaW.PrintMore Go.Proofs.Ythgodpmahdnnjaa.H
def bitS (m : Nat) (x : Int) : Bool := decide (0 ≤ x) && m.testBit x.toNat
theorem bitS_nat (m r : Nat) : bitS m (r : Int) = m.testBit r := by unfold bitS; simp
theorem bitS_zero (x : Int) : false = bitS 0 x := by unfold bitS; simp
theorem bitS_put (m : Nat) {y : Int} (hy : 0 ≤ y) (x : Int) : (x == y || bitS m x) = bitS (m ||| 2 ^ y.toNat) x := by
  unfold bitS
  rw [bit_add]
  by_cases h0 : 0 ≤ x
  · by_cases e : x = y
    · subst e; simp [h0]
    · have : ¬ y.toNat = x.toNat := by omega
      simp [h0, e, this]
  · have e : ¬ x = y := by omega
    simp [h0, e]
theorem bitS_del (m : Nat) {y : Int} (hy : 0 ≤ y) (x : Int) : (!(x == y) && bitS m x) = bitS (clr m y.toNat) x := by
  unfold bitS
  rw [bit_clr]
  by_cases h0 : 0 ≤ x
  · by_cases e : x = y
    · subst e; simp
    · have : ¬ y.toNat = x.toNat := by omega
      simp [h0, e, this]
  · simp [h0]
theorem listN_count (m : Nat) : (List.range 40).countP (fun i : Nat => bitS m i) = (listN m).length := by
  unfold listN
  rw [List.length_map, ← List.countP_eq_length_filter]
  simp only [bitS_nat]
theorem listN_in (m : Nat) {i : Nat} (hi : i < (listN m).length) : 0 ≤ (listN m).getD i 0 ∧ (listN m).getD i 0 < 40 ∧ bitS m ((listN m).getD i 0) = true := by
  rw [List.getD_eq_getElem?_getD, List.getElem?_eq_getElem hi]
  have hm := List.getElem_mem hi
  obtain ⟨r, hr, he⟩ := List.mem_map.1 (show (listN m)[i] ∈ ((List.range 40).filter fun r => m.testBit r).map fun r : Nat => (r : Int) from hm)
  obtain ⟨h1, h2⟩ := List.mem_filter.1 hr
  have h3 := List.mem_range.1 h1
  show 0 ≤ (listN m)[i] ∧ (listN m)[i] < 40 ∧ bitS m (listN m)[i] = true
  rw [← he, bitS_nat]
  exact ⟨by omega, by omega, h2⟩
theorem listN_rise (m : Nat) {i : Nat} (hi : i + 1 < (listN m).length) : (listN m).getD i 0 < (listN m).getD (i + 1) 0 := by
  have hp : (listN m).Pairwise (· < ·) := by
    unfold listN
    rw [List.pairwise_map]
    exact (List.pairwise_lt_range.filter _).imp (fun h => by omega)
  rw [List.getD_eq_getElem?_getD, List.getElem?_eq_getElem (show i < (listN m).length by omega), List.getD_eq_getElem?_getD, List.getElem?_eq_getElem hi]
  exact List.pairwise_iff_getElem.1 hp i (i + 1) (by omega) hi (by omega)
theorem bitS_in {m : Nat} (hm : m < 2 ^ 40) {x : Int} (h : bitS m x = true) : 0 ≤ x ∧ x < (40 : Nat) := by
  unfold bitS at h
  simp only [Bool.and_eq_true, decide_eq_true_eq] at h
  refine ⟨h.1, ?_⟩
  have : x.toNat < 40 := Decidable.byContradiction fun hn => by
    rw [Nat.testBit_lt_two_pow (Nat.lt_of_lt_of_le hm (Nat.pow_le_pow_right (by decide) (by omega)))] at h
    exact absurd h.2 (by decide)
  omega
theorem addL_list {m x : Nat} (hx : x < 2 ^ 40) : addL m (listN x) = m ||| x := by
  apply Nat.eq_of_testBit_eq
  intro r
  rw [addL_bit _ _ _ (fun q hq => (listN_mem hx hq).1), Nat.testBit_or]
  congr 1
  cases h : x.testBit r
  · have : ¬ (r : Int) ∈ listN x := fun hm => by rw [(mem_listN (Nat.le_refl 40) hx).1 hm] at h; cases h
    simpa using this
  · simpa using (mem_listN (Nat.le_refl 40) hx).2 h
theorem joinN_take (I : Nat → Nat) (m : Nat) (l : List Int) {k : Nat} (hk : k < l.length) : joinN I m (l.take (k + 1)) = joinN I m (l.take k) ||| I (l.getD k 0).toNat := by
  rw [List.take_succ_eq_append_getElem hk, List.getD_eq_getElem?_getD, List.getElem?_eq_getElem hk]
  unfold joinN
  rw [List.foldl_append]; rfl
theorem addL_take (m : Nat) (l : List Int) {k : Nat} (hk : k < l.length) : addL m (l.take (k + 1)) = addL m (l.take k) ||| 2 ^ (l.getD k 0).toNat := by
  rw [List.take_succ_eq_append_getElem hk, List.getD_eq_getElem?_getD, List.getElem?_eq_getElem hk]
  unfold addL
  rw [List.foldl_append]; rfl
theorem eqn_out {N : Nat} {B : List S43} {I O : Nat → Nat} (hB : OkF N B) (h : SI N B I O []) {b : Nat} (hb : b < B.length) : joinN I 0 (succL (B.getD b z43)) = O b := by
  apply Nat.eq_of_testBit_eq
  intro r
  rw [Bool.eq_iff_iff, joinN_bit, h.out_iff hB hb]
  constructor
  · rintro (h0 | ⟨t, ht, hr⟩)
    · simp at h0
    · have hto := (hB.b _ (memB hb)).succ t ht
      have htn : t.toNat < B.length := by omega
      have ht' : ((t.toNat : Nat) : Int) ∈ succL (B.getD b z43) := by rw [Int.toNat_of_nonneg (by omega)]; exact ht
      rcases (h.in_iff hB htn r).1 hr with h1 | ⟨h1, h2⟩
      · exact .use ht' h1
      · exact .thru ht' h1 h2
  · intro hl
    cases hl with
    | @use _ t hs hu =>
      have htn := succ_lt hB hb hs
      exact .inr ⟨t, hs, (h.in_iff hB htn r).2 (.inl hu)⟩
    | @thru _ t hs he hl =>
      have htn := succ_lt hB hb hs
      exact .inr ⟨t, hs, (h.in_iff hB htn r).2 (.inr ⟨he, hl⟩)⟩
theorem eqn_in {N : Nat} {B : List S43} {I O : Nat → Nat} (h : SI N B I O []) {b : Nat} (hb : b < B.length) : (B.getD b z43).f0.foldr befN (endN (B.getD b z43) (O b)) = I b :=
  ((h.fixed b hb (by simp)).1).symm
set_option maxHeartbeats 8000000 in
set_option maxRecDepth 100000 in
theorem eqSame_calls (A : Option Addr) (c m g b n : Nat) (hm : m < 2 ^ 40) (w : World) (hC : (Kd.int .i64).C w A (listN m).length (listN m)) (hg : w.heap[g]? = some (.cells #[.map (some b)] 56 (0, 0))) (hT : IsT w b n (bitS m)) :
    Calls Try.prog 25 #[.slice A (listN m).length c, .pointer (some ⟨g, 0, none⟩)] w fun e w' => e = .returned (.bool true) ∧ Below w.heap.size w w' := by
  obtain ⟨L, hL⟩ : ∃ L, L = listN m := ⟨_, rfl⟩
  have HIN := Lib.hid (fun (i : Nat) (hi : i < (listN m).length) => listN_in m hi)
  have HRI := Lib.hid (fun (i : Nat) (hi : i + 1 < (listN m).length) => listN_rise m hi)
  have HCN := Lib.hid (listN_count m)
  have hle := listN_le m
  rw [← hL] at hC HIN HRI HCN hle ⊢
  have HC := Lib.hid hC
  have HG := Lib.hid hg
  have HT := Lib.hid hT
  obtain ⟨S, hS⟩ : ∃ S, S = bitS m := ⟨_, rfl⟩
  have HSI := Lib.hid (fun (x : Int) (h : bitS m x = true) => bitS_in hm h)
  rw [← hS] at HT HIN HCN HSI
  have hlt0 := hT.lt
  have hgl := heap_lt hg
  have HS := Lib.hid hS
  clear hC hg hT hL hS
  go_enter Try.func25, Try.ntmps25
  go_wp2
  go_loopw [11] (fun v wr => ∃ i : Nat, i ≤ L.length ∧ v = .int .i64 i ∧ Below w.heap.size w wr) (fun v _ => L.length - (intOf v).toNat)
  case atStart => exact ⟨0, Nat.zero_le _, rfl, Below.refl _ _⟩
  case round =>
    obtain ⟨i, hi, rfl, hb⟩ := hrel
    obtain ⟨wo, rfl⟩ : ∃ wo, wo = wr := ⟨_, rfl⟩
    have HB := Lib.hid hb
    have y0 := cell1 (heap_below HG.out hb)
    by_cases hlt : i < L.length
    · obtain ⟨hx0, hx1, hxS⟩ := HIN.out i hlt
      obtain ⟨a9, rfl, hq9⟩ := at_ints (Kd.C_below HC.out hb) i hlt
      obtain ⟨x, hx⟩ : ∃ x, x = L.getD i 0 := ⟨_, rfl⟩
      rw [← hx] at hx0 hx1 hxS hq9
      have hlook := (HT.out.below hb hlt0).look (wfI (x := x) (by omega) (by omega))
      rw [hxS] at hlook
      clear hb hxS
      by_cases h0 : i = 0
      · have hd0 : ¬ (0 : Int) < i := by omega
        have hd1 : decide ((i : Int) > 0) = false := decide_eq_false (by omega)
        have hd2 : ¬ 0 < i := by omega
        clear hx h0
        go_wp2
        go_roundw
        case rel => exact ⟨i + 1, by omega, by go_num, HB.out⟩
        case measure => simp [intOf]; omega
      · obtain ⟨k, hk⟩ : ∃ k, i = k + 1 := ⟨i - 1, by omega⟩
        obtain ⟨_, hA', hq8⟩ := at_ints (Kd.C_below HC.out HB.out) k (by omega)
        injection hA' with hA'
        subst hA'
        have hr := HRI.out k (by omega)
        rw [← hk, ← hx] at hr
        obtain ⟨p, hp⟩ : ∃ p, p = L.getD k 0 := ⟨_, rfl⟩
        rw [← hp] at hr hq8
        have hd : decide (p ≥ x) = false := decide_eq_false (by omega)
        have hd' : ¬ x ≤ p := by omega
        have hd0 : (0 : Int) < i := by omega
        have hd1 : decide ((i : Int) > 0) = true := decide_eq_true (by omega)
        have hd2 : 0 < i := by omega
        have hsub : IntKind.i64.wrap ((i : Int) - 1) = (k : Int) := by rw [IntWalk.i64_in _ (by omega)]; omega
        have hkl : k < L.length := by omega
        clear hx hp h0 hr hk
        go_wp2
        go_roundw
        case rel => exact ⟨i + 1, by omega, by go_num, HB.out⟩
        case measure => simp [intOf]; omega
    · have e : i = L.length := by omega
      subst e
      have hTo := HT.out.below hb hlt0
      clear hb
      go_wp2_with (first | (at_range; refine wpList_range_T _ rfl _ rfl b n S rfl hTo ?_; intro w0 left0 cnt0 hrg0 hl0 hg0 hs0) | fail)
      go_frame
      obtain ⟨r, hr⟩ : ∃ r, r = wo.heap.size := ⟨_, rfl⟩
      rw [← hr] at hrg0 ⊢
      have hrl : w.heap.size ≤ r := by rw [hr]; exact HB.out.size
      have HB0 := Lib.hid (HB.out.grown hg0 HB.out.size (fun _ h => by cases h))
      have HL0 := Lib.hid hl0
      have HRG := Lib.hid hrg0
      clear hr hg0 hs0 hl0 hrg0 y0 hTo
      go_loopw [4] (fun v wr => ∃ (left : Int → Bool) (cnt q : Nat), v = .int .i64 q ∧ RangT wr b r S left cnt ∧ q + (List.range 40).countP (fun i : Nat => left i) = L.length ∧ w.heap.size ≤ wr.heap.size ∧ Below w.heap.size w wr) (fun _ wr => wr.rangeLeft b r)
      case atStart =>
        refine ⟨left0, cnt0, 0, rfl, HRG.out, ?_, HB0.out.size, HB0.out⟩
        rw [← HCN.out, Nat.zero_add]
        exact List.countP_congr fun i hi => by rw [HL0.out _ (wfI (by omega) (by have := List.mem_range.1 hi; omega))]
      case round =>
        obtain ⟨left, cnt, q, rfl, hrg, hq, hws, hbq⟩ := hrel
        obtain ⟨wq, rfl⟩ : ∃ wq, wq = wr := ⟨_, rfl⟩
        have HQ := Lib.hid hq
        have HBQ := Lib.hid hbq
        have HLE := Lib.hid (hrg.left_eq)
        have hql : q ≤ 40 := by omega
        clear hq hbq
        go_wp2_with (first | (at_next; refine wpList_next_T _ rfl _ rfl b r S left cnt rfl hrg ?_ ?_) | fail)
        · intro hl0
          have hz : (List.range 40).countP (fun i : Nat => left i) = 0 := List.countP_eq_zero.2 fun i hi => by rw [hl0 _ (wfI (by omega) (by have := List.mem_range.1 hi; omega))]; decide
          have he := HQ.out
          rw [hz, Nat.add_zero] at he
          subst he
          clear hz hl0 hrg
          go_wp2
          go_ret
          exact ⟨by simp, HBQ.out⟩
        · intro x w5 cnt' hwx hSx hlx hrg1 hlt1 hg1 hs1 hen
          obtain ⟨hx0, hx1⟩ := HSI.out x hSx
          have hct := count_strike hx0 hx1 hlx
          have hq1 := HQ.out
          rw [hct] at hq1
          have HQ1 := Lib.hid hq1
          have HB1 := Lib.hid (HBQ.out.grown hg1 hws (fun k h => by cases h; exact hrl))
          have HR1 := Lib.hid hrg1
          have hql : q + 1 ≤ 40 := by omega
          clear hct hq1 hg1 hrg1 hrg hlx hSx
          go_wp2
          go_roundw
          case rel => exact ⟨_, _, q + 1, by go_num, HR1.out, by have := HQ1.out; omega, HB1.out.size, HB1.out⟩
          case measure => rw [HR1.out.left_eq, HLE.out]; exact hlt1
end Go.Proofs.Ythgodpmahdnnjaa
end
section
namespace Go.Proofs.Ythgodpmahdnnjaa
open Go.RowKit Go.Proofs.YthgodpmahdnnjaaW.PrintWords Go.Proofs.YthgodpmahdnnjaaW.PrintMore Go.Proofs.Ythgodpmahdnnjaa.H
def ptN (x : S43) (o i : Nat) : Nat := (x.f0.drop i).foldr befN (endN x o)
theorem ptN_end (x : S43) (o : Nat) {i : Nat} (h : x.f0.length ≤ i) : ptN x o i = endN x o := by unfold ptN; rw [List.drop_eq_nil_of_le h]; rfl
theorem ptN_step {x : S43} {o i : Nat} (h : i < x.f0.length) : ptN x o i = befN (x.f0.getD i z62) (ptN x o (i + 1)) := by unfold ptN; rw [drop_getD h]; rfl
theorem ptN_lt {R n o i : Nat} {x : S43} (hx : OkB R n x) (ho : o < 2 ^ R) : ptN x o i < 2 ^ R := foldr_lt _ (fun j hj => hx.code j (List.mem_of_mem_drop hj)) (endN_lt hx ho)
structure LeW (w0 : World) (nm : ByteArray) (N : Nat) (A2 : Option Addr) (n2 c2 : Nat) (A3 : Option Addr) (c3 : Nat) (B : List S43) (Ai : Option Addr) (ci : Nat) (Ao : Option Addr) (co : Nat) (I O : Nat → Nat) (gf gs : Nat) (W : World) : Prop where
  bf : W.heap[gf]? = some (.cells #[.string nm, .int .i64 N, .slice A2 n2 c2, .slice A3 B.length c3] 25 (0, 0))
  bs : W.heap[gs]? = some (.cells #[.slice Ai B.length ci, .slice Ao B.length co] 30 (0, 0))
  cB : k43.C W A3 B.length B
  cI : (Kd.slice 3 (Kd.int .i64)).C W Ai B.length (lstN I B.length)
  cO : (Kd.slice 3 (Kd.int .i64)).C W Ao B.length (lstN O B.length)
  bw : Below w0.heap.size w0 W
section
variable {w0 : World} {nm : ByteArray} {N : Nat} {A2 : Option Addr} {n2 c2 : Nat} {A3 : Option Addr} {c3 : Nat} {B : List S43} {Ai : Option Addr} {ci : Nat} {Ao : Option Addr} {co : Nat} {I O : Nat → Nat} {gf gs : Nat} {W W1 : World}
theorem LeW.step (h : LeW w0 nm N A2 n2 c2 A3 c3 B Ai ci Ao co I O gf gs W) (hb : Below W.heap.size W W1) : LeW w0 nm N A2 n2 c2 A3 c3 B Ai ci Ao co I O gf gs W1 :=
  ⟨heap_below h.bf hb, heap_below h.bs hb, Kd.C_below h.cB hb, Kd.C_below h.cI hb, Kd.C_below h.cO hb, h.bw.trans (hb.mono h.bw.size)⟩
theorem LeW.cells (h : LeW w0 nm N A2 n2 c2 A3 c3 B Ai ci Ao co I O gf gs W) :
    W.cell? ⟨gf, 0, none⟩ = some (.string nm) ∧ W.cell? ⟨gf, 1, none⟩ = some (.int .i64 N) ∧ W.cell? ⟨gf, 2, none⟩ = some (.slice A2 n2 c2) ∧ W.cell? ⟨gf, 3, none⟩ = some (.slice A3 B.length c3) ∧ W.cell? ⟨gs, 0, none⟩ = some (.slice Ai B.length ci) ∧ W.cell? ⟨gs, 1, none⟩ = some (.slice Ao B.length co) :=
  ⟨(cells4 h.bf).1, (cells4 h.bf).2.1, (cells4 h.bf).2.2.1, (cells4 h.bf).2.2.2, (cells2 h.bs).1, (cells2 h.bs).2⟩
theorem LeW.bef (h : LeW w0 nm N A2 n2 c2 A3 c3 B Ai ci Ao co I O gf gs W) (hc3 : B.length ≤ c3) (hco : B.length ≤ co) (hn : B.length ≤ 1000) (hcode : ∀ x ∈ B, x.f0.length ≤ 1000) (hN : N ≤ 30) (b i : Int) (r : List Int) (hr : befoR N B (lstN O B.length) b i = r) :
    Calls Try.prog 13 #[.agg #[.string nm, .int .i64 N, .slice A2 n2 c2, .slice A3 B.length c3], .agg #[.slice Ai B.length ci, .slice Ao B.length co], .int .i64 b, .int .i64 i] W fun e w' =>
    ∃ A c, e = .returned (.slice A r.length c) ∧ r.length ≤ c ∧ (Kd.int .i64).C w' A r.length r ∧ Below W.heap.size W w' := by
  subst hr
  exact befAny nm N A2 n2 c2 A3 c3 B Ai ci Ao co B.length O W rfl h.cB h.cO hc3 hco hn hcode hN b i
theorem LeW.rowI (h : LeW w0 nm N A2 n2 c2 A3 c3 B Ai ci Ao co I O gf gs W) {b : Nat} (hb : b < B.length) : ∃ ad A0 c0, Ai = some ad ∧ W.cell? (ad.add b) = some (.slice A0 (listN (I b)).length c0) ∧ (Kd.int .i64).C W A0 (listN (I b)).length (listN (I b)) := by
  obtain ⟨ad, A0, c0, e, hq, _, hC⟩ := at_rows h.cI (b : Int) (by omega) (by omega)
  rw [Int.toNat_natCast, lstN_get I hb] at hq hC
  exact ⟨ad, A0, c0, e, hq, hC⟩
theorem LeW.rowO (h : LeW w0 nm N A2 n2 c2 A3 c3 B Ai ci Ao co I O gf gs W) {b : Nat} (hb : b < B.length) : ∃ ad A0 c0, Ao = some ad ∧ W.cell? (ad.add b) = some (.slice A0 (listN (O b)).length c0) ∧ (Kd.int .i64).C W A0 (listN (O b)).length (listN (O b)) := by
  obtain ⟨ad, A0, c0, e, hq, _, hC⟩ := at_rows h.cO (b : Int) (by omega) (by omega)
  rw [Int.toNat_natCast, lstN_get O hb] at hq hC
  exact ⟨ad, A0, c0, e, hq, hC⟩
end
theorem IsT.ne {w : World} {b n g : Nat} {S : Int → Bool} {cs : Array Value} {t : TypeId} {z : Nat × Nat} (h : IsT w b n S) (hg : w.heap[g]? = some (.cells cs t z)) : g ≠ b := by
  obtain ⟨_, _, ⟨es, clock, hb, _⟩, _⟩ := h
  rintro rfl
  rw [hb] at hg
  cases hg
structure LeR (wo : World) (g6 gb g7 : Nat) (A0 : Option Addr) (c0 : Nat) (x : S43) (m n : Nat) (W : World) : Prop where
  bel : Below wo.heap.size wo W
  b6 : W.heap[g6]? = some (.cells #[.slice A0 x.f0.length c0, .int .u8 x.f1, .int .i64 x.f2, .int .i64 x.f3, .int .i64 x.f4] 43 (0, 0))
  b7 : W.heap[g7]? = some (.cells #[.map (some gb)] 56 (0, 0))
  lb : wo.heap.size ≤ gb
  mp : IsT W gb n (bitS m)
section
variable {wo : World} {g6 gb g7 : Nat} {A0 : Option Addr} {c0 : Nat} {x : S43} {m m' n n' : Nat} {W W1 : World}
theorem LeR.below (h : LeR wo g6 gb g7 A0 c0 x m n W) (hb : Below W.heap.size W W1) : LeR wo g6 gb g7 A0 c0 x m n W1 :=
  ⟨h.bel.trans (hb.mono h.bel.size), heap_below h.b6 hb, heap_below h.b7 hb, h.lb, h.mp.below hb h.mp.lt⟩
theorem LeR.mono (h : LeR wo g6 gb g7 A0 c0 x m n W) (hn : n ≤ n') : LeR wo g6 gb g7 A0 c0 x m n' W := ⟨h.bel, h.b6, h.b7, h.lb, h.mp.mono hn⟩
theorem LeR.turn (h : LeR wo g6 gb g7 A0 c0 x m n W) (hg : W.grownBy W1 (some gb)) {S : Int → Bool} (hT : IsT W1 gb n' S) (hS : ∀ z, S z = bitS m' z) : LeR wo g6 gb g7 A0 c0 x m' n' W1 :=
  ⟨h.bel.grown hg h.bel.size (fun k e => by cases e; exact h.lb), (hg.block g6 (heap_lt h.b6) (fun e => h.mp.ne h.b6 (Option.some.inj e))).trans h.b6, (hg.block g7 (heap_lt h.b7) (fun e => h.mp.ne h.b7 (Option.some.inj e))).trans h.b7, h.lb, hT.congr fun z _ => hS z⟩
theorem LeR.put (h : LeR wo g6 gb g7 A0 c0 x m n W) {y : Int} (hy : 0 ≤ y) (hT : IsT W1 gb (n + 1) (fun z => z == y || bitS m z)) (hg : W.grownBy W1 (some gb)) : LeR wo g6 gb g7 A0 c0 x (m ||| 2 ^ y.toNat) (n + 1) W1 := h.turn hg hT (bitS_put m hy)
theorem LeR.del (h : LeR wo g6 gb g7 A0 c0 x m n W) {y : Int} (hy : 0 ≤ y) (hT : IsT W1 gb n (fun z => !(z == y) && bitS m z)) (hg : W.grownBy W1 (some gb)) : LeR wo g6 gb g7 A0 c0 x (clr m y.toNat) n W1 := h.turn hg hT (bitS_del m hy)
theorem LeR.cells (h : LeR wo g6 gb g7 A0 c0 x m n W) : (W.cell? ⟨g6, 0, none⟩ = some (.slice A0 x.f0.length c0) ∧ W.cell? ⟨g6, 1, none⟩ = some (.int .u8 x.f1) ∧ W.cell? ⟨g6, 2, none⟩ = some (.int .i64 x.f2) ∧ W.cell? ⟨g6, 3, none⟩ = some (.int .i64 x.f3) ∧ W.cell? ⟨g6, 4, none⟩ = some (.int .i64 x.f4)) ∧ W.cell? ⟨g7, 0, none⟩ = some (.map (some gb)) :=
  ⟨cells5 h.b6, cell1 h.b7⟩
end
theorem Own1.turn {W W1 : World} {base gb : Nat} {v : Value} {l : List Int} (h : Own1 3 W base v l) (hg : W.grownBy W1 (some gb)) (hb : gb < base) : Own1 3 W1 base v l :=
  h.move fun k hk => hg.block k (h.lt k hk).2 (fun e => by have e2 := Option.some.inj e; have := (h.lt k hk).1; omega)
theorem own_ints {W : World} {base : Nat} {A : Option Addr} {c : Nat} {l : List Int} (h : Own1 3 W base (.slice A l.length c) l) : (Kd.int .i64).C W A l.length l := by
  obtain ⟨A', c', e, _, hC⟩ := Kd.R_reads (h.R0 (t := 3) (ok := fun _ => True) (fun _ _ => trivial))
  injection e with e1 _ _
  rw [e1]; exact hC
end Go.Proofs.Ythgodpmahdnnjaa
end
section
namespace Go.Proofs.Ythgodpmahdnnjaa
open Go.RowKit Go.Proofs.YthgodpmahdnnjaaW.PrintWords Go.Proofs.YthgodpmahdnnjaaW.PrintMore Go.Proofs.Ythgodpmahdnnjaa.H
def smallB (R : Int) (B : List S43) : Bool := decide (B.length ≤ 10) && decide (R ≤ 12) && B.all fun b => decide (b.f0.length ≤ 20)
theorem small_l0 {B : List S43} (hn : B.length ≤ 10) : ∀ (d i k : Nat), i + d = B.length → d < k → ontimelaw19_small.l0 k B (B.length : Int) (i : Int) = some ((B.drop i).all fun b => decide (b.f0.length ≤ 20))
  | 0, i, k, hi, hk => by
    obtain ⟨k, rfl⟩ := k_add hk
    rw [ontimelaw19_small.l0, if_neg (by omega), List.drop_eq_nil_of_le (by omega)]; rfl
  | d + 1, i, k, hi, hk => by
    obtain ⟨k, rfl⟩ := k_add (show 1 ≤ k by omega)
    have hlt : i < B.length := by omega
    have hrd : rd_T43 B (i : Int) = B[i] := by unfold rd_T43; rw [Int.toNat_natCast, List.getD_eq_getElem?_getD, List.getElem?_eq_getElem hlt]; rfl
    rw [ontimelaw19_small.l0, if_pos (by omega), if_pos (by omega), if_pos (by omega), hrd, List.drop_eq_getElem_cons hlt, List.all_cons]
    by_cases h : (B[i].f0.length : Int) > 20
    · rw [if_pos h, decide_eq_false (by omega)]; rfl
    · rw [if_neg h, decide_eq_true (show B[i].f0.length ≤ 20 by omega), wr64 (by omega), Bool.true_and]
      exact small_l0 hn d (i + 1) k (by omega) (by omega)
theorem small_f (nm : ByteArray) (R : Int) (ar : List S107) (B : List S43) : ontimelaw19_small.f 20 nm R ar B = some (smallB R B) := by
  unfold ontimelaw19_small.f smallB
  by_cases h1 : (B.length : Int) > 10
  · rw [if_pos h1, decide_eq_false (show ¬ B.length ≤ 10 by omega)]
    rw [ontimelaw19_small.j0, if_pos rfl]; rfl
  · rw [if_neg h1, decide_eq_true (show B.length ≤ 10 by omega), ontimelaw19_small.j0]
    by_cases h2 : R > 12
    · rw [if_pos (decide_eq_true h2), decide_eq_false (show ¬ R ≤ 12 by omega)]; rfl
    · rw [if_neg (by rw [decide_eq_false h2]; simp), decide_eq_true (show R ≤ 12 by omega), Bool.true_and, Bool.true_and]
      exact small_l0 (by omega) B.length 0 19 (by omega) (by omega)
theorem small_of {R : Int} {B : List S43} (h : smallB R B = true) : B.length ≤ 10 ∧ R ≤ 12 ∧ ∀ x ∈ B, x.f0.length ≤ 20 := by
  unfold smallB at h
  rw [Bool.and_eq_true, Bool.and_eq_true, decide_eq_true_eq, decide_eq_true_eq, List.all_eq_true] at h
  exact ⟨h.1.1, h.1.2, fun x hx => of_decide_eq_true (h.2 x hx)⟩
def formB (R : Int) (B : List S43) : Bool := smallB R B && wfB R B
set_option maxHeartbeats 4000000 in
set_option maxRecDepth 100000 in
theorem form_calls (nm : ByteArray) (R : Int) (A2 : Option Addr) (c2 : Nat) (ar : List S107) (A3 : Option Addr) (c3 : Nat) (B : List S43) (w : World) (hC2 : k107.C w A2 ar.length ar) (hc2 : ar.length ≤ c2) (hC3 : k43.C w A3 B.length B) (hc3 : B.length ≤ c3) :
    Calls Try.prog 23 #[.agg #[.string nm, .int .i64 R, .slice A2 ar.length c2, .slice A3 B.length c3]] w fun e w' => e = .returned (.bool (formB R B)) ∧ Below w.heap.size w w' := by
  obtain ⟨o, ho⟩ : ∃ o, o = smallB R B := ⟨_, rfl⟩
  have HO := Lib.hid ho
  have HC2 := Lib.hid hC2
  have HC3 := Lib.hid hC3
  have HSM := Lib.hid (small_f nm R ar B)
  clear hC2 hC3
  cases o with
  | false =>
    have HF := Lib.hid (show formB R B = false by unfold formB; rw [← HO.out]; rfl)
    clear ho
    go_enter Try.func23, Try.ntmps23
    go_wp2_with (first
      | ((with_reducible refine gate_dst (N := 1) rfl ?_); refine box_event ?hg (N := 1) ?hd (cs := #[.string nm, .int .i64 R, .slice A2 ar.length c2, .slice A3 B.length c3]) (t := 25) ?hr ?_; (case hd => rfl); (case hg => rfl); (case hr => first | (go_simp; done) | (go_simp; rfl)); intro g1 hg1 w1 hbox1 hbw1; have HBW1 := Lib.hid hbw1; obtain ⟨z0, z1, z2, z3⟩ := cells4 hbox1; clear hbox1 hbw1 hg1)
      | (go_at_call 9; refine (ontimelaw19_small.calls 20 nm R A2 c2 ar A3 c3 B _ _ (Kd.C_below HC2.out HBW1.out) hc2 (Kd.C_below HC3.out HBW1.out) hc3 HSM.out).mono ?_; rw [← HO.out]; rintro e w3 ⟨rfl, hb3⟩; have HB3 := Lib.hid hb3; clear hb3)
      | fail)
    go_ret
    exact ⟨by rw [HF.out]; rfl, HBW1.out.trans (HB3.out.mono HBW1.out.size)⟩
  | true =>
    obtain ⟨hn, hR, hco⟩ := small_of ho.symm
    have hn1 : B.length ≤ 1000 := by omega
    have HCO := Lib.hid (show ∀ x ∈ B, x.f0.length ≤ 1000 from fun x hx => Nat.le_trans (hco x hx) (by decide))
    have HF := Lib.hid (show formB R B = wfB R B by unfold formB; rw [← HO.out]; rfl)
    obtain ⟨q, hq⟩ : ∃ q, q = wfB R B := ⟨_, rfl⟩
    have HQ := Lib.hid hq
    clear hco ho hq
    go_enter Try.func23, Try.ntmps23
    go_wp2_with (first
      | ((with_reducible refine gate_dst (N := 1) rfl ?_); refine box_event ?hg (N := 1) ?hd (cs := #[.string nm, .int .i64 R, .slice A2 ar.length c2, .slice A3 B.length c3]) (t := 25) ?hr ?_; (case hd => rfl); (case hg => rfl); (case hr => first | (go_simp; done) | (go_simp; rfl)); intro g1 hg1 w1 hbox1 hbw1; have HBW1 := Lib.hid hbw1; have BK1 := Lib.hid hbox1; obtain ⟨z0, z1, z2, z3⟩ := cells4 hbox1; clear hbox1 hbw1 hg1)
      | (go_at_call 9; refine (ontimelaw19_small.calls 20 nm R A2 c2 ar A3 c3 B _ _ (Kd.C_below HC2.out HBW1.out) hc2 (Kd.C_below HC3.out HBW1.out) hc3 HSM.out).mono ?_; rw [← HO.out]; rintro e w3 ⟨rfl, hb3⟩; have HB3 := Lib.hid hb3; have BK3 := Lib.hid (heap_below BK1.out hb3); clear hb3 z0 z1 z2 z3; obtain ⟨z0, z1, z2, z3⟩ := cells4 BK3.out)
      | (go_at_call 11; refine (Plain_calls nm R A2 ar.length c2 A3 c3 B _ (Kd.C_below (Kd.C_below HC3.out HBW1.out) HB3.out) hn1 HCO.out).mono ?_; rintro e w7 ⟨Am, cm, rfl, hlm, hCm, hb7⟩; have HCm := Lib.hid hCm; have HB7 := Lib.hid hb7; clear hCm hb7 z0 z1 z2 z3)
      | (go_at_call 12; refine (Form_calls nm R A2 ar.length c2 Am cm B _ HCm.out hn1 HCO.out).mono ?_; rw [← HQ.out]; rintro e w10 ⟨rfl, hb10⟩; have HB10 := Lib.hid hb10; clear hb10)
      | fail)
    go_ret
    exact ⟨by rw [HF.out, ← HQ.out]; rfl, HBW1.out.trans ((HB3.out.trans ((HB7.out.trans (HB10.out.mono HB7.out.size)).mono HB3.out.size)).mono HBW1.out.size)⟩
end Go.Proofs.Ythgodpmahdnnjaa
end
section
namespace Go.Proofs.Ythgodpmahdnnjaa
open Go.RowKit Go.Proofs.YthgodpmahdnnjaaW.PrintWords Go.Proofs.YthgodpmahdnnjaaW.PrintMore Go.Proofs.Ythgodpmahdnnjaa.H
set_option maxHeartbeats 8000000 in
set_option maxRecDepth 100000 in
theorem LE_no (nm : ByteArray) (R : Int) (A2 : Option Addr) (c2 : Nat) (ar : List S107) (A3 : Option Addr) (c3 : Nat) (B : List S43) (w : World) (ho : false = formB R B) (hC2 : k107.C w A2 ar.length ar) (hc2 : ar.length ≤ c2) (hC3 : k43.C w A3 B.length B) (hc3 : B.length ≤ c3) :
    Calls Try.prog 5 #[.agg #[.string nm, .int .i64 R, .slice A2 ar.length c2, .slice A3 B.length c3]] w fun e w' => e = .returned (.bool true) ∧ Below w.heap.size w w' := by
  have HO := Lib.hid ho
  have HC2 := Lib.hid hC2
  have HC3 := Lib.hid hC3
  clear hC2 hC3 ho
  go_enter Try.func5, Try.ntmps5
  go_wp2_with (first
    | ((with_reducible refine gate_dst (N := 1) rfl ?_); refine box_event ?hg (N := 1) ?hd (cs := #[.string nm, .int .i64 R, .slice A2 ar.length c2, .slice A3 B.length c3]) (t := 25) ?hr ?_; (case hd => rfl); (case hg => rfl); (case hr => first | (go_simp; done) | (go_simp; rfl)); intro g1 hg1 w1 hbox1 hbw1; have HBW1 := Lib.hid hbw1; have BK1 := Lib.hid hbox1; clear hbox1 hbw1 hg1)
    | (go_at_call 8; have hx := HB3.out; clear hx; refine (awake_calls _).mono ?_; rintro e w4 ⟨rfl, hb4⟩; have HB4 := Lib.hid hb4; clear hb4)
    | (go_at_call 8; refine (awake_calls _).mono ?_; rintro e w2 ⟨rfl, hb2⟩; have HB2 := Lib.hid hb2; have BK2 := Lib.hid (heap_below BK1.out hb2); clear hb2; obtain ⟨z0, z1, z2, z3⟩ := cells4 BK2.out)
    | (go_at_call 23; refine (form_calls nm R A2 c2 ar A3 c3 B _ (Kd.C_below (Kd.C_below HC2.out HBW1.out) HB2.out) hc2 (Kd.C_below (Kd.C_below HC3.out HBW1.out) HB2.out) hc3).mono ?_; rw [← HO.out]; rintro e w3 ⟨rfl, hb3⟩; have HB3 := Lib.hid hb3; clear hb3 z0 z1 z2 z3)
    | fail)
  go_ret
  exact ⟨rfl, HBW1.out.trans ((HB2.out.trans ((HB3.out.trans (HB4.out.mono HB3.out.size)).mono HB2.out.size)).mono HBW1.out.size)⟩
set_option maxHeartbeats 8000000 in
set_option maxRecDepth 100000 in
theorem LE_yes (nm : ByteArray) (R : Int) (A2 : Option Addr) (c2 : Nat) (ar : List S107) (A3 : Option Addr) (c3 : Nat) (B : List S43) (w : World) (ho : true = formB R B) (hC2 : k107.C w A2 ar.length ar) (hc2 : ar.length ≤ c2) (hC3 : k43.C w A3 B.length B) (hc3 : B.length ≤ c3) :
    Calls Try.prog 5 #[.agg #[.string nm, .int .i64 R, .slice A2 ar.length c2, .slice A3 B.length c3]] w fun e w' => e = .returned (.bool true) ∧ Below w.heap.size w w' := by
  have hsm : smallB R B = true ∧ wfB R B = true := by unfold formB at ho; rw [← Bool.and_eq_true]; exact ho.symm
  obtain ⟨hn, hR, hco⟩ := small_of hsm.1
  have hn1 : B.length ≤ 1000 := by omega
  have hn3 : B.length ≤ 30 := by omega
  have HCO := Lib.hid (show ∀ x ∈ B, x.f0.length ≤ 1000 from fun x hx => Nat.le_trans (hco x hx) (by decide))
  have HQ := Lib.hid hsm.2
  obtain ⟨N, rfl, hN, hF⟩ := (wfB_iff R B).1 hsm.2
  have hN3 : N ≤ 30 := by omega
  have hR3 : (N : Int) ≤ 30 := by omega
  have HF := Lib.hid hF
  have HO := Lib.hid ho
  have HC2 := Lib.hid hC2
  have HC3 := Lib.hid hC3
  clear hC2 hC3 ho hsm hco hF hN hR
  have HOF := Lib.hid (fun (W : World) (h : k43.C W A3 B.length B) => (Of_calls nm N hR3 A2 c2 ar.length A3 c3 B W h hc3 hn3 HCO.out).mono (fun e w' (hh : _ ∧ _) => show ∃ (Ai : Option Addr) (ci : Nat) (Ao : Option Addr) (co : Nat) (I O : Nat → Nat), e = .returned (.tuple #[.agg #[.slice Ai B.length ci, .slice Ao B.length co], .int .i64 0]) ∧ SI N B I O [] ∧ RowsOf w' W.heap.size (.slice Ai B.length ci) (lstN I B.length) ∧ RowsOf w' W.heap.size (.slice Ao B.length co) (lstN O B.length) ∧ Below W.heap.size W w' from by
    obtain ⟨hof, hb⟩ := hh
    rcases hof with ⟨hff, _⟩ | ⟨N', vi, vo, I, O, hN', _, he, hsi, hRi, hRo⟩
    · rw [HQ.out] at hff; cases hff
    · obtain rfl : N = N' := by omega
      obtain ⟨Ai, ci, rfl, _, _⟩ := hRi.C
      obtain ⟨Ao, co, rfl, _, _⟩ := hRo.C
      rw [lstN_length] at hRi hRo
      rw [lstN_length, lstN_length] at he
      exact ⟨Ai, ci, Ao, co, I, O, he, hsi, hRi, hRo, hb⟩))
  go_enter Try.func5, Try.ntmps5
  go_upto_region 3 with (first
    | ((with_reducible refine gate_dst (N := 1) rfl ?_); refine box_event ?hg (N := 1) ?hd (cs := #[.string nm, .int .i64 N, .slice A2 ar.length c2, .slice A3 B.length c3]) (t := 25) ?hr ?_; (case hd => rfl); (case hg => rfl); (case hr => first | (go_simp; done) | (go_simp; rfl)); intro g1 hg1 w1 hbox1 hbw1; have HBW1 := Lib.hid hbw1; have BK1 := Lib.hid hbox1; clear hbox1 hbw1 hg1)
    | (go_at_call 8; refine (awake_calls _).mono ?_; rintro e w2 ⟨rfl, hb2⟩; have HB2 := Lib.hid (HBW1.out.trans (hb2.mono HBW1.out.size)); have BK2 := Lib.hid (heap_below BK1.out hb2); clear hb2; obtain ⟨z0, z1, z2, z3⟩ := cells4 BK2.out)
    | (go_at_call 23; refine (form_calls nm N A2 c2 ar A3 c3 B _ (Kd.C_below HC2.out HB2.out) hc2 (Kd.C_below HC3.out HB2.out) hc3).mono ?_; rw [← HO.out]; rintro e w3 ⟨rfl, hb3⟩; have HB3 := Lib.hid (HB2.out.trans (hb3.mono HB2.out.size)); have BK3' := Lib.hid (heap_below BK2.out hb3); clear hb3 z0 z1 z2 z3; obtain ⟨z0, z1, z2, z3⟩ := cells4 BK3'.out)
    | fail)
  have HC36 := Lib.hid (Kd.C_below HC3.out HB3.out)
  go_upto_region 4 with (first
    | ((with_reducible refine gate_dst (N := 3) rfl ?_); refine box_event ?hg (N := 3) ?hd (cs := #[.slice none 0 0, .slice none 0 0]) (t := 30) ?hr ?_; (case hd => rfl); (case hg => rfl); (case hr => first | (go_simp; done) | (go_simp; rfl)); intro g4 hg4 w8 hbox4 hbw4; have HBW4 := Lib.hid hbw4; have BK4 := Lib.hid hbox4; have HG4 := Lib.hid hg4; have f0 := blk_frozen hbox4 0; have f1 := blk_frozen hbox4 1; obtain ⟨y0, y1⟩ := cells2 hbox4; clear hbox4 hbw4 hg4)
    | (go_at_call 10; refine (HOF.out w3 HC36.out).mono ?_; rintro e w7 ⟨Ai, ci, Ao, co, I, O, rfl, hsi, hRi, hRo, hb7⟩; have HSI := Lib.hid hsi; have HRI := Lib.hid hRi; have HRO := Lib.hid hRo; have HB7 := Lib.hid hb7; have HK17 := Lib.hid (heap_below BK3'.out hb7); clear hsi hRi hRo hb7 z0 z1 z2 z3; obtain ⟨z0, z1, z2, z3⟩ := cells4 HK17.out)
    | fail)
  have hl4 : w7.heap.size ≤ g4 := by rw [HG4.out]; exact Nat.le_refl _
  obtain ⟨w9, hw9⟩ : ∃ w9, w9 = ((w8.setCell ⟨g4, 0, none⟩ (.slice Ai B.length ci)).setCell ⟨g4, 1, none⟩ (.slice Ao B.length co)) := ⟨_, rfl⟩
  rw [← hw9]
  have hb79 : Below w7.heap.size w7 w9 := by rw [hw9]; exact (HBW4.out.setCell (p := ⟨g4, 0, none⟩) hl4 _).setCell (p := ⟨g4, 1, none⟩) hl4 _
  have hk4 : w9.heap[g4]? = some (.cells #[.slice Ai B.length ci, .slice Ao B.length co] 30 (0, 0)) := by rw [hw9]; exact blk_put (blk_put BK4.out 0 _ rfl) 1 _ rfl
  have hb69 := HB7.out.trans (hb79.mono HB7.out.size)
  have hb09 := HB3.out.trans (hb69.mono HB3.out.size)
  have hci : (Kd.slice 3 (Kd.int .i64)).C w9 Ai B.length (lstN I B.length) := by
    obtain ⟨A, c, e, _, hC⟩ := (HRI.out.below hb79).C
    rw [lstN_length] at e hC
    injection e with e1 _ _
    rw [e1]; exact hC
  have hco : (Kd.slice 3 (Kd.int .i64)).C w9 Ao B.length (lstN O B.length) ∧ B.length ≤ co := by
    obtain ⟨A, c, e, hl, hC⟩ := (HRO.out.below hb79).C
    rw [lstN_length] at e hl hC
    injection e with e1 _ e3
    rw [e1, e3]; exact ⟨hC, hl⟩
  have HCO2 := Lib.hid hco.2
  have HW9 := Lib.hid (show LeW w nm N A2 ar.length c2 A3 c3 B Ai ci Ao co I O g1 g4 w9 from ⟨heap_below HK17.out hb79, hk4, Kd.C_below HC36.out hb69, hci, hco.1, hb09⟩)
  clear hl4 hw9 hb79 hk4 hb69 hb09 hci hco f0 f1 y0 y1 z0 z1 z2 z3 BK4 HBW4 HG4 HB7 HK17 HC36 HRI HRO HB3 BK3' BK2 BK1 HB2 HBW1
  obtain ⟨z0, z1, z2, z3, y0, y1⟩ := HW9.out.cells
  go_wp2
  clear z0 z1 z2 z3 y0 y1
  go_loopw [54] (fun v wr => ∃ k : Nat, k ≤ B.length ∧ v = .int .i64 k ∧ LeW w nm N A2 ar.length c2 A3 c3 B Ai ci Ao co I O g1 g4 wr) (fun v _ => B.length - (intOf v).toNat)
  case atStart => exact ⟨0, Nat.zero_le _, rfl, HW9.out⟩
  case round =>
    obtain ⟨k, hk, rfl, hWo⟩ := hrel
    obtain ⟨wo, rfl⟩ : ∃ wo, wo = wr := ⟨_, rfl⟩
    have HWO := Lib.hid hWo
    clear hWo HW9
    by_cases hlt : k < B.length
    · obtain ⟨ad, A0, c0, hA3, q0, q1, q2, q3, q4, hl0, hC0⟩ := at_T43 HWO.out.cB (k : Int) (by omega) (by omega)
      have HA3 := Lib.hid hA3
      subst hA3
      rw [Int.toNat_natCast] at q0 q1 q2 q3 q4
      have hrd : rd_T43 B (k : Int) = B.getD k z43 := by unfold rd_T43; rw [Int.toNat_natCast]
      rw [hrd] at q0 q1 q2 q3 q4 hl0 hC0
      have hok := HF.out.b _ (memB hlt)
      have hcl := HCO.out _ (memB hlt)
      have hout := eqn_out HF.out HSI.out hlt
      have hin := eqn_in HSI.out hlt
      have hbp : ∀ i : Nat, i ≤ (B.getD k z43).f0.length → befoR N B (lstN O B.length) k i = listN (ptN (B.getD k z43) (O k) i) := fun i hi => bef_pt HF.out hN3 HSI.out hlt hi
      obtain ⟨x, hx⟩ : ∃ x, x = B.getD k z43 := ⟨_, rfl⟩
      rw [← hx] at q0 q1 q2 q3 q4 hl0 hC0 hok hcl hout hin hbp
      have q1' : wo.cell? ⟨(ad.add (k * 5)).block, (ad.add (k * 5)).off + 1, none⟩ = some (.int .u8 x.f1) := q1
      have q2' : wo.cell? ⟨(ad.add (k * 5)).block, (ad.add (k * 5)).off + 2, none⟩ = some (.int .i64 x.f2) := q2
      have q3' : wo.cell? ⟨(ad.add (k * 5)).block, (ad.add (k * 5)).off + 3, none⟩ = some (.int .i64 x.f3) := q3
      have q4' : wo.cell? ⟨(ad.add (k * 5)).block, (ad.add (k * 5)).off + 4, none⟩ = some (.int .i64 x.f4) := q4
      have HC0 := Lib.hid hC0
      have HOK := Lib.hid hok
      have HOUT := Lib.hid hout
      have HIN := Lib.hid hin
      have HBP := Lib.hid hbp
      have HOL := Lib.hid (show O k < 2 ^ 40 from Nat.lt_of_lt_of_le (HSI.out.lt k hlt).2 (Nat.pow_le_pow_right (by decide) (by omega)))
      have HIL := Lib.hid (fun (t : Nat) (ht : t < B.length) => show I t < 2 ^ 40 from Nat.lt_of_lt_of_le (HSI.out.lt t ht).1 (Nat.pow_le_pow_right (by decide) (by omega)))
      have HPL := Lib.hid (fun (i : Nat) => show ptN x (O k) i < 2 ^ 40 from Nat.lt_of_lt_of_le (ptN_lt hok (HSI.out.lt k hlt).2) (Nat.pow_le_pow_right (by decide) (by omega)))
      clear hC0 hrd hx hok hout hin hbp q1 q2 q3 q4
      go_upto_region 9 with (first
        | ((with_reducible refine gate_dst (N := 6) rfl ?_); refine box_event ?hg (N := 6) ?hd (cs := #[.slice none 0 0, .int .u8 0, .int .i64 0, .int .i64 0, .int .i64 0]) (t := 43) ?hr ?_; (case hd => rfl); (case hg => rfl); (case hr => first | (go_simp; done) | (go_simp; rfl)); intro g6 hg6 w5 hbox5 hbw5; obtain ⟨y0, y1, y2, y3, y4⟩ := cells5 hbox5; have f0 := blk_frozen hbox5 0; have f1 := blk_frozen hbox5 1; have f2 := blk_frozen hbox5 2; have f3 := blk_frozen hbox5 3; have f4 := blk_frozen hbox5 4; have BK5 := Lib.hid hbox5; have HBW5 := Lib.hid hbw5; have HG6 := Lib.hid hg6; clear hbox5 hbw5 hg6)
        | fail)
      have hg6l : wo.heap.size ≤ g6 := by rw [HG6.out]; exact Nat.le_refl _
      obtain ⟨w6, hw6⟩ : ∃ w6, w6 = (((((w5.setCell ⟨g6, 0, none⟩ (.slice A0 x.f0.length c0)).setCell ⟨g6, 1, none⟩ (.int .u8 x.f1)).setCell ⟨g6, 2, none⟩ (.int .i64 x.f2)).setCell ⟨g6, 3, none⟩ (.int .i64 x.f3)).setCell ⟨g6, 4, none⟩ (.int .i64 x.f4)) := ⟨_, rfl⟩
      have hb6 : Below wo.heap.size wo w6 := by
        rw [hw6]
        exact ((((HBW5.out.setCell (p := ⟨g6, 0, none⟩) hg6l _).setCell (p := ⟨g6, 1, none⟩) hg6l _).setCell (p := ⟨g6, 2, none⟩) hg6l _).setCell (p := ⟨g6, 3, none⟩) hg6l _).setCell (p := ⟨g6, 4, none⟩) hg6l _
      have hk6 : w6.heap[g6]? = some (.cells #[.slice A0 x.f0.length c0, .int .u8 x.f1, .int .i64 x.f2, .int .i64 x.f3, .int .i64 x.f4] 43 (0, 0)) := by rw [hw6]; exact blk_five BK5.out _ _ _ _ _
      rw [← hw6]
      have HB6 := Lib.hid hb6
      have HK6 := Lib.hid hk6
      clear hw6 hb6 hk6 hg6l y0 y1 y2 y3 y4 f0 f1 f2 f3 f4 q0 q1' q2' q3' q4' BK5 HBW5 HG6
      have hmm := @run_makeMap Try.prog
      go_upto_region 10 with (first
        | ((with_reducible refine gate_dst (N := 7) rfl ?_); refine box_event ?hg (N := 7) ?hd (cs := #[.map none]) (t := 56) ?hr ?_; (case hd => rfl); (case hg => rfl); (case hr => first | (go_simp; done) | (go_simp; rfl)); intro g7 hg7 w7 hbox7 hbw7; have y0 := cell1 hbox7; have f0 := blk_frozen hbox7 0; have BK7 := Lib.hid hbox7; have HBW7 := Lib.hid hbw7; have HG7 := Lib.hid hg7; clear hbox7 hbw7 hg7)
        | fail)
      clear hmm
      obtain ⟨gb, hgb⟩ : ∃ gb, gb = w6.heap.size := ⟨_, rfl⟩
      obtain ⟨w8, hw8⟩ : ∃ w8, w8 = w7.setCell ⟨g7, 0, none⟩ (.map (some gb)) := ⟨_, rfl⟩
      rw [← hgb, ← hw8]
      have hr8 : LeR wo g6 gb g7 A0 c0 x 0 0 w8 := by
        have hs6 : (w6.alloc (.map #[] 0)).heap.size = w6.heap.size + 1 := alloc_size1 _ _
        have h7l : (w6.alloc (.map #[] 0)).heap.size ≤ g7 := by rw [HG7.out]; exact Nat.le_refl _
        have hb78 : Below (w6.alloc (.map #[] 0)).heap.size (w6.alloc (.map #[] 0)) w8 := by rw [hw8]; exact HBW7.out.setCell (p := ⟨g7, 0, none⟩) h7l _
        have hb68 : Below w6.heap.size w6 w8 := ((Below.refl w6.heap.size w6).alloc (Nat.le_refl _) _).trans (hb78.mono (by omega))
        refine ⟨HB6.out.trans (hb68.mono HB6.out.size), heap_below HK6.out hb68, ?_, ?_, ?_⟩
        · rw [hw8]; exact blk_put BK7.out 0 _ rfl
        · rw [hgb]; exact HB6.out.size
        · rw [hgb]; exact ((isT_made w6).below hb78 (by omega)).congr fun z _ => bitS_zero z
      have HR8 := Lib.hid hr8
      have HSU := Lib.hid (show ir_Succ.f 1 x.f0 x.f1 x.f2 x.f3 x.f4 = some (succL x) from Succ_f x 1 (Nat.le_refl _))
      clear hr8 hw8 hgb y0 f0 HB6 HK6 BK7 HBW7 HG7
      obtain ⟨⟨b0, b1, b2, b3, b4⟩, b5⟩ := HR8.out.cells
      go_wp2_with (first
        | (go_at_call 24; refine (ir_Succ.calls 1 A0 c0 x.f0 x.f1 x.f2 x.f3 x.f4 _ _ (Kd.C_below HC0.out HR8.out.bel) hl0 HSU.out).mono ?_; rintro e w9 ⟨v9, rfl, hR9, hb9⟩; obtain ⟨A9, c9, rfl, hl9, _⟩ := Kd.R_reads hR9; have HS9 := Lib.hid (Own1.of_R0 (t := 3) hR9); have HR9 := Lib.hid (HR8.out.below hb9); clear hR9 hb9)
        | fail)
      have HGB := Lib.hid HR8.out.mp.lt
      have hsl := succL_len x
      clear b0 b1 b2 b3 b4 b5
      go_loopw [63] (fun v wr => ∃ j : Nat, j ≤ (succL x).length ∧ v = .int .i64 j ∧ LeR wo g6 gb g7 A0 c0 x (joinN I 0 ((succL x).take j)) (40 * j) wr ∧ Own1 3 wr w8.heap.size (.slice A9 (succL x).length c9) (succL x)) (fun v _ => (succL x).length - (intOf v).toNat)
      case atStart => exact ⟨0, Nat.zero_le _, rfl, HR9.out, HS9.out⟩
      case round =>
        obtain ⟨j, hj, rfl, hRp, hSp⟩ := hrel
        obtain ⟨wp, rfl⟩ : ∃ wp, wp = wr := ⟨_, rfl⟩
        have HRP := Lib.hid hRp
        have HSP := Lib.hid hSp
        clear hRp hSp
        have HWP := Lib.hid (HWO.out.step HRP.out.bel)
        obtain ⟨z0, z1, z2, z3, y0, y1⟩ := HWP.out.cells
        by_cases hjl : j < (succL x).length
        · obtain ⟨a9s, hA9, hq9⟩ := at_ints (own_ints HSP.out) j hjl
          have HA9 := Lib.hid hA9
          subst hA9
          obtain ⟨s, hs⟩ : ∃ s, s = (succL x).getD j 0 := ⟨_, rfl⟩
          have hsm : s ∈ succL x := by rw [hs, List.getD_eq_getElem?_getD, List.getElem?_eq_getElem hjl]; exact List.getElem_mem hjl
          obtain ⟨hs0, hs1⟩ := HOK.out.succ s hsm
          obtain ⟨t, rfl⟩ : ∃ t : Nat, s = t := ⟨s.toNat, by omega⟩
          have htl : t < B.length := by omega
          rw [← hs] at hq9
          obtain ⟨ai, A7, c7, hAi, hq7, hC7⟩ := HWO.out.rowI htl
          have HAI := Lib.hid hAi
          subst hAi
          have hq7' := cell_up hq7 HRP.out.bel
          have HC7 := Lib.hid hC7
          have hil := HIL.out t htl
          obtain ⟨L7, hL7⟩ : ∃ L7, L7 = listN (I t) := ⟨_, rfl⟩
          have hl7 := listN_le (I t)
          have HE7 := Lib.hid (fun (i : Nat) (hi : i < (listN (I t)).length) => listN_in (I t) hi)
          have hjoin : joinN I 0 ((succL x).take (j + 1)) = addL (joinN I 0 ((succL x).take j)) L7 := by rw [joinN_take I 0 _ hjl, ← hs, Int.toNat_natCast, hL7, addL_list hil]
          rw [← hL7] at hq7' HC7 hl7 HE7
          have HJ := Lib.hid hjoin
          clear hq7 hC7 hjoin hsm hs hL7 hil
          go_wp2
          go_loopw [73] (fun v wr => ∃ q : Nat, q ≤ L7.length ∧ v = .int .i64 q ∧ LeR wo g6 gb g7 A0 c0 x (addL (joinN I 0 ((succL x).take j)) (L7.take q)) (40 * j + q) wr ∧ Own1 3 wr w8.heap.size (.slice (some a9s) (succL x).length c9) (succL x)) (fun v _ => L7.length - (intOf v).toNat)
          case atStart => exact ⟨0, Nat.zero_le _, rfl, HRP.out, HSP.out⟩
          case round =>
            obtain ⟨q, hq, rfl, hRq, hSq⟩ := hrel
            obtain ⟨wq, rfl⟩ : ∃ wq, wq = wr := ⟨_, rfl⟩
            have HRQ := Lib.hid hRq
            have HSQ := Lib.hid hSq
            clear hRq hSq z0 z1 z2 z3 y0 y1 hq9 hq7'
            by_cases hql : q < L7.length
            · obtain ⟨a7, hA7, hqa⟩ := at_ints (Kd.C_below HC7.out HRQ.out.bel) q hql
              have HA7 := Lib.hid hA7
              subst hA7
              obtain ⟨hx0, hx1, _⟩ := HE7.out q hql
              obtain ⟨z, hz⟩ : ∃ z, z = L7.getD q 0 := ⟨_, rfl⟩
              have hadd := addL_take (joinN I 0 ((succL x).take j)) L7 hql
              rw [← hz] at hqa hx0 hx1 hadd
              have HAD := Lib.hid hadd
              have b5 := HRQ.out.cells.2
              have hmp := HRQ.out.mp
              clear hz hadd
              go_wp2_with (first
                | (at_mapUpdate; refine wpList_put_T _ rfl _ _ _ rfl gb (40 * j + q) _ rfl hmp (by unfold maxLen; omega) z rfl (wfI (by omega) (by omega)) rfl ?_; intro w10 hT10 hg10; have HR10 := Lib.hid (HRQ.out.put hx0 hT10 hg10); have HS10 := Lib.hid (HSQ.out.turn hg10 HGB.out); clear hT10 hg10 hmp)
                | fail)
              go_roundw
              case rel => exact ⟨q + 1, by omega, by go_num, by rw [HAD.out]; exact HR10.out, HS10.out⟩
              case measure => simp [intOf]; omega
            · have e : q = L7.length := by omega
              subst e
              have HN := Lib.hid (show LeR wo g6 gb g7 A0 c0 x (joinN I 0 ((succL x).take (j + 1))) (40 * (j + 1)) wq by
                have h := HRQ.out
                rw [List.take_length] at h
                rw [HJ.out]
                exact h.mono (by omega))
              go_wp2
              go_roundw
              case rel => exact ⟨j + 1, by omega, by go_num, HN.out, HSQ.out⟩
              case measure => simp [intOf]; omega
        · have e : j = (succL x).length := by omega
          subst e
          have HRO := Lib.hid (show LeR wo g6 gb g7 A0 c0 x (O k) 80 wp by
            have h := HRP.out
            rw [List.take_length, HOUT.out] at h
            exact h.mono (by omega))
          obtain ⟨ao, A7, c7, hAo, hq7, hC7⟩ := HWO.out.rowO hlt
          have HAo := Lib.hid hAo
          subst hAo
          have hq7' := cell_up hq7 HRO.out.bel
          have HSAME := Lib.hid (eqSame_calls A7 c7 (O k) g7 gb 80 HOL.out wp (Kd.C_below hC7 HRO.out.bel) HRO.out.b7 HRO.out.mp)
          have hmf : ∀ fn first cap w, (Instr.makeFunc fn first cap).run Try.prog w = .ok (.func fn first cap) w := fun _ _ _ _ => rfl
          clear hq7 hC7 HRP HSP HR9 HS9 HR8
          go_upto_region 22 with (first
            | (go_at_call 25; refine HSAME.out.mono ?_; rintro e w11 ⟨rfl, hb11⟩; have HR11 := Lib.hid (HRO.out.below hb11); clear hb11)
            | fail)
          clear hmf HSAME HRO z0 z1 z2 z3 y0 y1 hq7' HWP
          obtain ⟨⟨b0, b1, b2, b3, b4⟩, b5⟩ := HR11.out.cells
          have hbr : ((x.f1 == 2) = true ∧ endN x (O k) = O k ||| 2 ^ x.f2.toNat ∧ 0 ≤ x.f2 ∧ x.f2 < N) ∨ ((x.f1 == 2) = false ∧ endN x (O k) = O k) := by
            unfold endN
            by_cases h2 : x.f1 = 2
            · exact .inl ⟨by simp [h2], by rw [if_pos h2], (HOK.out.x h2).1, (HOK.out.x h2).2⟩
            · exact .inr ⟨by simp [h2], by rw [if_neg h2]⟩
          have hbody : ∀ (A : Act) (W : World), True := fun _ _ => trivial
          clear hbody
          rcases hbr with ⟨hk2, hend, hx20, hx21⟩ | ⟨hk2, hend⟩
          · have HEND := Lib.hid hend
            have hmp := HR11.out.mp
            clear hend
            go_upto_region 24 with (first
              | (at_mapUpdate; refine wpList_put_T _ rfl _ _ _ rfl gb 80 _ rfl hmp (by unfold maxLen; omega) x.f2 rfl (wfI (by omega) (by omega)) rfl ?_; intro w12 hT12 hg12; have HR12 := Lib.hid (HEND.out ▸ HR11.out.put hx20 hT12 hg12); clear hT12 hg12 hmp b0 b1 b2 b3 b4 b5)
              | fail)
            obtain ⟨⟨b0, b1, b2, b3, b4⟩, b5⟩ := HR12.out.cells
            go_wp2
            clear b0 b1 b2 b3 b4 b5
            go_loopw [13] (fun v wr => (∃ i : Nat, i ≤ x.f0.length ∧ v = .int .i64 i ∧ LeR wo g6 gb g7 A0 c0 x (ptN x (O k) (i + 1)) (81 + 2 * (x.f0.length - i)) wr) ∨ (v = .int .i64 (-1) ∧ LeR wo g6 gb g7 A0 c0 x (ptN x (O k) 0) (83 + 2 * x.f0.length) wr)) (fun v _ => (intOf v + 1).toNat)
            case atStart => exact .inl ⟨x.f0.length, Nat.le_refl _, rfl, by rw [ptN_end x _ (Nat.le_succ _), Nat.sub_self]; exact HR12.out⟩
            case round =>
              obtain ⟨wp, rfl⟩ : ∃ wp, wp = wr := ⟨_, rfl⟩
              rcases hrel with ⟨i, hi, rfl, hRd⟩ | ⟨rfl, hRd⟩
              · have HRD := Lib.hid hRd
                have hge : decide ((i : Int) ≥ 0) = true := decide_eq_true (by omega)
                clear hRd
                obtain ⟨⟨b0, b1, b2, b3, b4⟩, b5⟩ := HRD.out.cells
                by_cases hil : i < x.f0.length
                · obtain ⟨ax, hA0, i0, i1, i2, i3, i4, i5⟩ := at_T62 HC0.out (i : Int) (by omega) (by omega)
                  have HA0 := Lib.hid hA0
                  subst hA0
                  rw [Int.toNat_natCast] at i0 i1 i2 i3 i4 i5
                  have hrd : rd_T62 x.f0 (i : Int) = x.f0.getD i z62 := by unfold rd_T62; rw [Int.toNat_natCast]
                  rw [hrd] at i0 i1 i2 i3 i4 i5
                  have hyi := HOK.out.code _ (memI hil)
                  have hst := ptN_step (x := x) (o := O k) hil
                  obtain ⟨y, hy⟩ : ∃ y, y = x.f0.getD i z62 := ⟨_, rfl⟩
                  rw [← hy] at i0 i1 i2 i3 i4 i5 hyi hst
                  have HYI := Lib.hid hyi
                  have HINS := Lib.hid (show ∀ W, Below wo.heap.size wo W → W.cell? (ax.add (i * 6)) = some (.int .u8 y.f0) ∧ W.cell? ⟨(ax.add (i * 6)).block, (ax.add (i * 6)).off + 1, none⟩ = some (.int .i64 y.f1) ∧ W.cell? ⟨(ax.add (i * 6)).block, (ax.add (i * 6)).off + 2, none⟩ = some (.int .i64 y.f2) ∧ W.cell? ⟨(ax.add (i * 6)).block, (ax.add (i * 6)).off + 3, none⟩ = some (.int .i64 y.f3) ∧ W.cell? ⟨(ax.add (i * 6)).block, (ax.add (i * 6)).off + 4, none⟩ = some (.int .i64 y.f4) ∧ W.cell? ⟨(ax.add (i * 6)).block, (ax.add (i * 6)).off + 5, none⟩ = some (.string y.f5) from fun W hW => ⟨cell_up i0 hW, cell_up i1 hW, cell_up i2 hW, cell_up i3 hW, cell_up i4 hW, cell_up i5 hW⟩)
                  clear i0 i1 i2 i3 i4 i5 hrd hy hyi
                  obtain ⟨i0, i1, i2, i3, i4, i5⟩ := HINS.out wp HRD.out.bel
                  have HU := Lib.hid (Uses_f y)
                  obtain ⟨dm, hdm⟩ : ∃ dm, dm = if (shp y.f0).1 = true then clr (ptN x (O k) (i + 1)) y.f1.toNat else ptN x (O k) (i + 1) := ⟨_, rfl⟩
                  have HST := Lib.hid (show ptN x (O k) i = addL dm (usesL y) by rw [hst, hdm]; rfl)
                  have hD := Defines_f y
                  clear hst
                  cases hsd : (shp y.f0).1 with
                  | true =>
                    rw [hsd, if_pos rfl] at hD hdm
                    have HD := Lib.hid hD
                    have HDM := Lib.hid hdm
                    obtain ⟨hf0, hf1⟩ := HYI.out.d hsd
                    clear hD hdm hsd
                    go_wp2_with (first
                      | (go_at_call 26; refine (ir_Defines.calls _ _ _ _ _ _ _ _ _ HD.out).mono ?_; rintro e w13 ⟨rfl, hb13⟩; have HR13 := Lib.hid (HRD.out.below hb13); clear hb13 b0 b1 b2 b3 b4 b5 i0 i1 i2 i3 i4 i5; have b5 := HR13.out.cells.2; have hmp := HR13.out.mp)
                      | (at_delete; refine wpList_del_T _ rfl _ _ rfl gb (81 + 2 * (x.f0.length - i)) _ rfl hmp y.f1 rfl (wfI (by omega) (by omega)) ?_; intro w14 hT14 hg14; have HR14 := Lib.hid (show LeR wo g6 gb g7 (some ax) c0 x dm (81 + 2 * (x.f0.length - i)) w14 from HDM.out ▸ HR13.out.del hf0 hT14 hg14); clear hT14 hg14 hmp b5; obtain ⟨⟨b0, b1, b2, b3, b4⟩, b5⟩ := HR14.out.cells; obtain ⟨i0, i1, i2, i3, i4, i5⟩ := HINS.out w14 HR14.out.bel)
                      | (go_at_call 27; refine (ir_Uses.calls _ _ _ _ _ _ _ _ HU.out).mono ?_; rintro e w15 ⟨v15, rfl, hR15, hb15⟩; obtain ⟨A15, c15, rfl, hl15, _⟩ := Kd.R_reads hR15; have HS15 := Lib.hid (Own1.of_R0 (t := 3) hR15); have HR15 := Lib.hid (HR14.out.below hb15); have HGX := Lib.hid HR14.out.mp.lt; clear hR15 hb15 b0 b1 b2 b3 b4 b5 i0 i1 i2 i3 i4 i5)
                      | fail)
                    have hul := usesL_len y
                    go_loopw [127] (fun v wr => ∃ q : Nat, q ≤ (usesL y).length ∧ v = .int .i64 q ∧ LeR wo g6 gb g7 (some ax) c0 x (addL dm ((usesL y).take q)) (81 + 2 * (x.f0.length - i) + q) wr ∧ Own1 3 wr w14.heap.size (.slice A15 (usesL y).length c15) (usesL y)) (fun v _ => (usesL y).length - (intOf v).toNat)
                    case atStart => exact ⟨0, Nat.zero_le _, rfl, HR15.out, HS15.out⟩
                    case round =>
                      obtain ⟨q, hq, rfl, hRq, hSq⟩ := hrel
                      obtain ⟨wq, rfl⟩ : ∃ wq, wq = wr := ⟨_, rfl⟩
                      have HRQ := Lib.hid hRq
                      have HSQ := Lib.hid hSq
                      clear hRq hSq
                      by_cases hql : q < (usesL y).length
                      · obtain ⟨a7, hA7, hqa⟩ := at_ints (own_ints HSQ.out) q hql
                        have HA7 := Lib.hid hA7
                        subst hA7
                        obtain ⟨z, hz⟩ : ∃ z, z = (usesL y).getD q 0 := ⟨_, rfl⟩
                        have hzm : z ∈ usesL y := by rw [hz, List.getD_eq_getElem?_getD, List.getElem?_eq_getElem hql]; exact List.getElem_mem hql
                        obtain ⟨hx0, hx1⟩ := HYI.out.u z hzm
                        have hadd := addL_take dm (usesL y) hql
                        rw [← hz] at hqa hadd
                        have HAD := Lib.hid hadd
                        have b5 := HRQ.out.cells.2
                        have hmp := HRQ.out.mp
                        clear hz hadd hzm
                        go_wp2_with (first
                          | (at_mapUpdate; refine wpList_put_T _ rfl _ _ _ rfl gb (81 + 2 * (x.f0.length - i) + q) _ rfl hmp (by unfold maxLen; omega) z rfl (wfI (by omega) (by omega)) rfl ?_; intro w16 hT16 hg16; have HR16 := Lib.hid (HRQ.out.put hx0 hT16 hg16); have HS16 := Lib.hid (HSQ.out.turn hg16 HGX.out); clear hT16 hg16 hmp)
                          | fail)
                        go_roundw
                        case rel => exact ⟨q + 1, by omega, by go_num, by rw [HAD.out]; exact HR16.out, HS16.out⟩
                        case measure => simp [intOf]; omega
                      · have e : q = (usesL y).length := by omega
                        subst e
                        have HRE := Lib.hid (show LeR wo g6 gb g7 (some ax) c0 x (ptN x (O k) i) (83 + 2 * (x.f0.length - i)) wq by
                          have h := HRQ.out
                          rw [List.take_length] at h
                          rw [HST.out]
                          exact h.mono (by omega))
                        have hsub : IntKind.i64.wrap ((i : Int) - 1) = (i : Int) - 1 := IntWalk.i64_in _ (by omega)
                        have HWE := Lib.hid (HWO.out.step HRE.out.bel)
                        have HBEF := Lib.hid (HWE.out.bef hc3 HCO2.out hn1 HCO.out hN3 (k : Int) (i : Int) _ (HBP.out i (by omega)))
                        go_upto_region 36 with fail
                        obtain ⟨z0, z1, z2, z3, y0, y1⟩ := HWE.out.cells
                        go_wp2_with (first
                          | (go_at_call 13; (refine HBEF.out.mono ?_; rintro e w17 ⟨A17, c17, rfl, _, hC17, hb17⟩; have HC17 := Lib.hid hC17; have HR17 := Lib.hid (HRE.out.below hb17); clear hC17 hb17 z0 z1 z2 z3 y0 y1))
                          | (go_at_call 25; (refine (eqSame_calls A17 c17 (ptN x (O k) i) g7 gb _ (HPL.out i) _ HC17.out HR17.out.b7 HR17.out.mp).mono ?_; rintro e w18 ⟨rfl, hb18⟩; have HR18 := Lib.hid (HR17.out.below hb18); clear hb18))
                          | fail)
                        go_roundw
                        case rel =>
                          by_cases hi0 : i = 0
                          · exact .inr ⟨congrArg (Value.int .i64) (by omega), by rw [← hi0]; exact HR18.out.mono (by omega)⟩
                          · exact .inl ⟨i - 1, by omega, congrArg (Value.int .i64) (by omega), by rw [show i - 1 + 1 = i by omega]; exact HR18.out.mono (by omega)⟩
                        case measure => first | (simp [intOf]; done) | (simp [intOf]; omega)
                  | false =>
                    rw [hsd, if_neg (by decide)] at hD hdm
                    have HD := Lib.hid hD
                    have HDM := Lib.hid hdm
                    clear hD hdm hsd
                    go_wp2_with (first
                      | (go_at_call 26; refine (ir_Defines.calls _ _ _ _ _ _ _ _ _ HD.out).mono ?_; rintro e w14 ⟨rfl, hb14⟩; have HR14 := Lib.hid (show LeR wo g6 gb g7 (some ax) c0 x dm (81 + 2 * (x.f0.length - i)) w14 from HDM.out ▸ HRD.out.below hb14); clear hb14 b0 b1 b2 b3 b4 b5 i0 i1 i2 i3 i4 i5; obtain ⟨⟨b0, b1, b2, b3, b4⟩, b5⟩ := HR14.out.cells; obtain ⟨i0, i1, i2, i3, i4, i5⟩ := HINS.out w14 HR14.out.bel)
                      | (go_at_call 27; refine (ir_Uses.calls _ _ _ _ _ _ _ _ HU.out).mono ?_; rintro e w15 ⟨v15, rfl, hR15, hb15⟩; obtain ⟨A15, c15, rfl, hl15, _⟩ := Kd.R_reads hR15; have HS15 := Lib.hid (Own1.of_R0 (t := 3) hR15); have HR15 := Lib.hid (HR14.out.below hb15); have HGX := Lib.hid HR14.out.mp.lt; clear hR15 hb15 b0 b1 b2 b3 b4 b5 i0 i1 i2 i3 i4 i5)
                      | fail)
                    have hul := usesL_len y
                    go_loopw [127] (fun v wr => ∃ q : Nat, q ≤ (usesL y).length ∧ v = .int .i64 q ∧ LeR wo g6 gb g7 (some ax) c0 x (addL dm ((usesL y).take q)) (81 + 2 * (x.f0.length - i) + q) wr ∧ Own1 3 wr w14.heap.size (.slice A15 (usesL y).length c15) (usesL y)) (fun v _ => (usesL y).length - (intOf v).toNat)
                    case atStart => exact ⟨0, Nat.zero_le _, rfl, HR15.out, HS15.out⟩
                    case round =>
                      obtain ⟨q, hq, rfl, hRq, hSq⟩ := hrel
                      obtain ⟨wq, rfl⟩ : ∃ wq, wq = wr := ⟨_, rfl⟩
                      have HRQ := Lib.hid hRq
                      have HSQ := Lib.hid hSq
                      clear hRq hSq
                      by_cases hql : q < (usesL y).length
                      · obtain ⟨a7, hA7, hqa⟩ := at_ints (own_ints HSQ.out) q hql
                        have HA7 := Lib.hid hA7
                        subst hA7
                        obtain ⟨z, hz⟩ : ∃ z, z = (usesL y).getD q 0 := ⟨_, rfl⟩
                        have hzm : z ∈ usesL y := by rw [hz, List.getD_eq_getElem?_getD, List.getElem?_eq_getElem hql]; exact List.getElem_mem hql
                        obtain ⟨hx0, hx1⟩ := HYI.out.u z hzm
                        have hadd := addL_take dm (usesL y) hql
                        rw [← hz] at hqa hadd
                        have HAD := Lib.hid hadd
                        have b5 := HRQ.out.cells.2
                        have hmp := HRQ.out.mp
                        clear hz hadd hzm
                        go_wp2_with (first
                          | (at_mapUpdate; refine wpList_put_T _ rfl _ _ _ rfl gb (81 + 2 * (x.f0.length - i) + q) _ rfl hmp (by unfold maxLen; omega) z rfl (wfI (by omega) (by omega)) rfl ?_; intro w16 hT16 hg16; have HR16 := Lib.hid (HRQ.out.put hx0 hT16 hg16); have HS16 := Lib.hid (HSQ.out.turn hg16 HGX.out); clear hT16 hg16 hmp)
                          | fail)
                        go_roundw
                        case rel => exact ⟨q + 1, by omega, by go_num, by rw [HAD.out]; exact HR16.out, HS16.out⟩
                        case measure => simp [intOf]; omega
                      · have e : q = (usesL y).length := by omega
                        subst e
                        have HRE := Lib.hid (show LeR wo g6 gb g7 (some ax) c0 x (ptN x (O k) i) (83 + 2 * (x.f0.length - i)) wq by
                          have h := HRQ.out
                          rw [List.take_length] at h
                          rw [HST.out]
                          exact h.mono (by omega))
                        have hsub : IntKind.i64.wrap ((i : Int) - 1) = (i : Int) - 1 := IntWalk.i64_in _ (by omega)
                        have HWE := Lib.hid (HWO.out.step HRE.out.bel)
                        have HBEF := Lib.hid (HWE.out.bef hc3 HCO2.out hn1 HCO.out hN3 (k : Int) (i : Int) _ (HBP.out i (by omega)))
                        go_upto_region 36 with fail
                        obtain ⟨z0, z1, z2, z3, y0, y1⟩ := HWE.out.cells
                        go_wp2_with (first
                          | (go_at_call 13; (refine HBEF.out.mono ?_; rintro e w17 ⟨A17, c17, rfl, _, hC17, hb17⟩; have HC17 := Lib.hid hC17; have HR17 := Lib.hid (HRE.out.below hb17); clear hC17 hb17 z0 z1 z2 z3 y0 y1))
                          | (go_at_call 25; (refine (eqSame_calls A17 c17 (ptN x (O k) i) g7 gb _ (HPL.out i) _ HC17.out HR17.out.b7 HR17.out.mp).mono ?_; rintro e w18 ⟨rfl, hb18⟩; have HR18 := Lib.hid (HR17.out.below hb18); clear hb18))
                          | fail)
                        go_roundw
                        case rel =>
                          by_cases hi0 : i = 0
                          · exact .inr ⟨congrArg (Value.int .i64) (by omega), by rw [← hi0]; exact HR18.out.mono (by omega)⟩
                          · exact .inl ⟨i - 1, by omega, congrArg (Value.int .i64) (by omega), by rw [show i - 1 + 1 = i by omega]; exact HR18.out.mono (by omega)⟩
                        case measure => first | (simp [intOf]; done) | (simp [intOf]; omega)
                · have hie : i = x.f0.length := by omega
                  have HRE := Lib.hid (show LeR wo g6 gb g7 A0 c0 x (ptN x (O k) i) (83 + 2 * (x.f0.length - i)) wp by
                    have h := HRD.out
                    rw [ptN_end x _ (by omega)] at h
                    rw [ptN_end x _ (by omega)]
                    exact h.mono (by omega))
                  have hlf : decide ((i : Int) < (x.f0.length : Int)) = false := decide_eq_false (by omega)
                  clear hie
                  have hsub : IntKind.i64.wrap ((i : Int) - 1) = (i : Int) - 1 := IntWalk.i64_in _ (by omega)
                  have HWE := Lib.hid (HWO.out.step HRE.out.bel)
                  have HBEF := Lib.hid (HWE.out.bef hc3 HCO2.out hn1 HCO.out hN3 (k : Int) (i : Int) _ (HBP.out i (by omega)))
                  go_upto_region 36 with fail
                  obtain ⟨z0, z1, z2, z3, y0, y1⟩ := HWE.out.cells
                  go_wp2_with (first
                    | (go_at_call 13; (refine HBEF.out.mono ?_; rintro e w17 ⟨A17, c17, rfl, _, hC17, hb17⟩; have HC17 := Lib.hid hC17; have HR17 := Lib.hid (HRE.out.below hb17); clear hC17 hb17 z0 z1 z2 z3 y0 y1))
                    | (go_at_call 25; (refine (eqSame_calls A17 c17 (ptN x (O k) i) g7 gb _ (HPL.out i) _ HC17.out HR17.out.b7 HR17.out.mp).mono ?_; rintro e w18 ⟨rfl, hb18⟩; have HR18 := Lib.hid (HR17.out.below hb18); clear hb18))
                    | fail)
                  go_roundw
                  case rel =>
                    by_cases hi0 : i = 0
                    · exact .inr ⟨congrArg (Value.int .i64) (by omega), by rw [← hi0]; exact HR18.out.mono (by omega)⟩
                    · exact .inl ⟨i - 1, by omega, congrArg (Value.int .i64) (by omega), by rw [show i - 1 + 1 = i by omega]; exact HR18.out.mono (by omega)⟩
                  case measure => first | (simp [intOf]; done) | (simp [intOf]; omega)
              · have HRE := Lib.hid (show LeR wo g6 gb g7 A0 c0 x (I k) (83 + 2 * x.f0.length) wp by
                  rw [← HIN.out]; exact hRd)
                have HWE := Lib.hid (HWO.out.step HRE.out.bel)
                obtain ⟨ai, A7, c7, hAi, hq7, hC7⟩ := HWE.out.rowI hlt
                have HAI := Lib.hid hAi
                subst hAi
                obtain ⟨z0, z1, z2, z3, y0, y1⟩ := HWE.out.cells
                have HSAME := Lib.hid (eqSame_calls A7 c7 (I k) g7 gb _ (HIL.out k hlt) wp hC7 HRE.out.b7 HRE.out.mp)
                clear hC7 hRd
                go_wp2_with (first
                  | (go_at_call 25; refine HSAME.out.mono ?_; rintro e w18 ⟨rfl, hb18⟩; have HW18 := Lib.hid (HWE.out.step hb18); clear hb18)
                  | fail)
                go_roundw
                case rel => exact ⟨k + 1, by omega, by go_num, HW18.out⟩
                case measure => simp [intOf]; omega
          · have HR12 := Lib.hid (hend.symm ▸ HR11.out.mono (show 80 ≤ 81 by omega))
            clear hend
            go_upto_region 24 with fail
            clear b0 b1 b2 b3 b4 b5
            obtain ⟨⟨b0, b1, b2, b3, b4⟩, b5⟩ := HR12.out.cells
            go_wp2
            clear b0 b1 b2 b3 b4 b5
            go_loopw [13] (fun v wr => (∃ i : Nat, i ≤ x.f0.length ∧ v = .int .i64 i ∧ LeR wo g6 gb g7 A0 c0 x (ptN x (O k) (i + 1)) (81 + 2 * (x.f0.length - i)) wr) ∨ (v = .int .i64 (-1) ∧ LeR wo g6 gb g7 A0 c0 x (ptN x (O k) 0) (83 + 2 * x.f0.length) wr)) (fun v _ => (intOf v + 1).toNat)
            case atStart => exact .inl ⟨x.f0.length, Nat.le_refl _, rfl, by rw [ptN_end x _ (Nat.le_succ _), Nat.sub_self]; exact HR12.out⟩
            case round =>
              obtain ⟨wp, rfl⟩ : ∃ wp, wp = wr := ⟨_, rfl⟩
              rcases hrel with ⟨i, hi, rfl, hRd⟩ | ⟨rfl, hRd⟩
              · have HRD := Lib.hid hRd
                have hge : decide ((i : Int) ≥ 0) = true := decide_eq_true (by omega)
                clear hRd
                obtain ⟨⟨b0, b1, b2, b3, b4⟩, b5⟩ := HRD.out.cells
                by_cases hil : i < x.f0.length
                · obtain ⟨ax, hA0, i0, i1, i2, i3, i4, i5⟩ := at_T62 HC0.out (i : Int) (by omega) (by omega)
                  have HA0 := Lib.hid hA0
                  subst hA0
                  rw [Int.toNat_natCast] at i0 i1 i2 i3 i4 i5
                  have hrd : rd_T62 x.f0 (i : Int) = x.f0.getD i z62 := by unfold rd_T62; rw [Int.toNat_natCast]
                  rw [hrd] at i0 i1 i2 i3 i4 i5
                  have hyi := HOK.out.code _ (memI hil)
                  have hst := ptN_step (x := x) (o := O k) hil
                  obtain ⟨y, hy⟩ : ∃ y, y = x.f0.getD i z62 := ⟨_, rfl⟩
                  rw [← hy] at i0 i1 i2 i3 i4 i5 hyi hst
                  have HYI := Lib.hid hyi
                  have HINS := Lib.hid (show ∀ W, Below wo.heap.size wo W → W.cell? (ax.add (i * 6)) = some (.int .u8 y.f0) ∧ W.cell? ⟨(ax.add (i * 6)).block, (ax.add (i * 6)).off + 1, none⟩ = some (.int .i64 y.f1) ∧ W.cell? ⟨(ax.add (i * 6)).block, (ax.add (i * 6)).off + 2, none⟩ = some (.int .i64 y.f2) ∧ W.cell? ⟨(ax.add (i * 6)).block, (ax.add (i * 6)).off + 3, none⟩ = some (.int .i64 y.f3) ∧ W.cell? ⟨(ax.add (i * 6)).block, (ax.add (i * 6)).off + 4, none⟩ = some (.int .i64 y.f4) ∧ W.cell? ⟨(ax.add (i * 6)).block, (ax.add (i * 6)).off + 5, none⟩ = some (.string y.f5) from fun W hW => ⟨cell_up i0 hW, cell_up i1 hW, cell_up i2 hW, cell_up i3 hW, cell_up i4 hW, cell_up i5 hW⟩)
                  clear i0 i1 i2 i3 i4 i5 hrd hy hyi
                  obtain ⟨i0, i1, i2, i3, i4, i5⟩ := HINS.out wp HRD.out.bel
                  have HU := Lib.hid (Uses_f y)
                  obtain ⟨dm, hdm⟩ : ∃ dm, dm = if (shp y.f0).1 = true then clr (ptN x (O k) (i + 1)) y.f1.toNat else ptN x (O k) (i + 1) := ⟨_, rfl⟩
                  have HST := Lib.hid (show ptN x (O k) i = addL dm (usesL y) by rw [hst, hdm]; rfl)
                  have hD := Defines_f y
                  clear hst
                  cases hsd : (shp y.f0).1 with
                  | true =>
                    rw [hsd, if_pos rfl] at hD hdm
                    have HD := Lib.hid hD
                    have HDM := Lib.hid hdm
                    obtain ⟨hf0, hf1⟩ := HYI.out.d hsd
                    clear hD hdm hsd
                    go_wp2_with (first
                      | (go_at_call 26; refine (ir_Defines.calls _ _ _ _ _ _ _ _ _ HD.out).mono ?_; rintro e w13 ⟨rfl, hb13⟩; have HR13 := Lib.hid (HRD.out.below hb13); clear hb13 b0 b1 b2 b3 b4 b5 i0 i1 i2 i3 i4 i5; have b5 := HR13.out.cells.2; have hmp := HR13.out.mp)
                      | (at_delete; refine wpList_del_T _ rfl _ _ rfl gb (81 + 2 * (x.f0.length - i)) _ rfl hmp y.f1 rfl (wfI (by omega) (by omega)) ?_; intro w14 hT14 hg14; have HR14 := Lib.hid (show LeR wo g6 gb g7 (some ax) c0 x dm (81 + 2 * (x.f0.length - i)) w14 from HDM.out ▸ HR13.out.del hf0 hT14 hg14); clear hT14 hg14 hmp b5; obtain ⟨⟨b0, b1, b2, b3, b4⟩, b5⟩ := HR14.out.cells; obtain ⟨i0, i1, i2, i3, i4, i5⟩ := HINS.out w14 HR14.out.bel)
                      | (go_at_call 27; refine (ir_Uses.calls _ _ _ _ _ _ _ _ HU.out).mono ?_; rintro e w15 ⟨v15, rfl, hR15, hb15⟩; obtain ⟨A15, c15, rfl, hl15, _⟩ := Kd.R_reads hR15; have HS15 := Lib.hid (Own1.of_R0 (t := 3) hR15); have HR15 := Lib.hid (HR14.out.below hb15); have HGX := Lib.hid HR14.out.mp.lt; clear hR15 hb15 b0 b1 b2 b3 b4 b5 i0 i1 i2 i3 i4 i5)
                      | fail)
                    have hul := usesL_len y
                    go_loopw [127] (fun v wr => ∃ q : Nat, q ≤ (usesL y).length ∧ v = .int .i64 q ∧ LeR wo g6 gb g7 (some ax) c0 x (addL dm ((usesL y).take q)) (81 + 2 * (x.f0.length - i) + q) wr ∧ Own1 3 wr w14.heap.size (.slice A15 (usesL y).length c15) (usesL y)) (fun v _ => (usesL y).length - (intOf v).toNat)
                    case atStart => exact ⟨0, Nat.zero_le _, rfl, HR15.out, HS15.out⟩
                    case round =>
                      obtain ⟨q, hq, rfl, hRq, hSq⟩ := hrel
                      obtain ⟨wq, rfl⟩ : ∃ wq, wq = wr := ⟨_, rfl⟩
                      have HRQ := Lib.hid hRq
                      have HSQ := Lib.hid hSq
                      clear hRq hSq
                      by_cases hql : q < (usesL y).length
                      · obtain ⟨a7, hA7, hqa⟩ := at_ints (own_ints HSQ.out) q hql
                        have HA7 := Lib.hid hA7
                        subst hA7
                        obtain ⟨z, hz⟩ : ∃ z, z = (usesL y).getD q 0 := ⟨_, rfl⟩
                        have hzm : z ∈ usesL y := by rw [hz, List.getD_eq_getElem?_getD, List.getElem?_eq_getElem hql]; exact List.getElem_mem hql
                        obtain ⟨hx0, hx1⟩ := HYI.out.u z hzm
                        have hadd := addL_take dm (usesL y) hql
                        rw [← hz] at hqa hadd
                        have HAD := Lib.hid hadd
                        have b5 := HRQ.out.cells.2
                        have hmp := HRQ.out.mp
                        clear hz hadd hzm
                        go_wp2_with (first
                          | (at_mapUpdate; refine wpList_put_T _ rfl _ _ _ rfl gb (81 + 2 * (x.f0.length - i) + q) _ rfl hmp (by unfold maxLen; omega) z rfl (wfI (by omega) (by omega)) rfl ?_; intro w16 hT16 hg16; have HR16 := Lib.hid (HRQ.out.put hx0 hT16 hg16); have HS16 := Lib.hid (HSQ.out.turn hg16 HGX.out); clear hT16 hg16 hmp)
                          | fail)
                        go_roundw
                        case rel => exact ⟨q + 1, by omega, by go_num, by rw [HAD.out]; exact HR16.out, HS16.out⟩
                        case measure => simp [intOf]; omega
                      · have e : q = (usesL y).length := by omega
                        subst e
                        have HRE := Lib.hid (show LeR wo g6 gb g7 (some ax) c0 x (ptN x (O k) i) (83 + 2 * (x.f0.length - i)) wq by
                          have h := HRQ.out
                          rw [List.take_length] at h
                          rw [HST.out]
                          exact h.mono (by omega))
                        have hsub : IntKind.i64.wrap ((i : Int) - 1) = (i : Int) - 1 := IntWalk.i64_in _ (by omega)
                        have HWE := Lib.hid (HWO.out.step HRE.out.bel)
                        have HBEF := Lib.hid (HWE.out.bef hc3 HCO2.out hn1 HCO.out hN3 (k : Int) (i : Int) _ (HBP.out i (by omega)))
                        go_upto_region 36 with fail
                        obtain ⟨z0, z1, z2, z3, y0, y1⟩ := HWE.out.cells
                        go_wp2_with (first
                          | (go_at_call 13; (refine HBEF.out.mono ?_; rintro e w17 ⟨A17, c17, rfl, _, hC17, hb17⟩; have HC17 := Lib.hid hC17; have HR17 := Lib.hid (HRE.out.below hb17); clear hC17 hb17 z0 z1 z2 z3 y0 y1))
                          | (go_at_call 25; (refine (eqSame_calls A17 c17 (ptN x (O k) i) g7 gb _ (HPL.out i) _ HC17.out HR17.out.b7 HR17.out.mp).mono ?_; rintro e w18 ⟨rfl, hb18⟩; have HR18 := Lib.hid (HR17.out.below hb18); clear hb18))
                          | fail)
                        go_roundw
                        case rel =>
                          by_cases hi0 : i = 0
                          · exact .inr ⟨congrArg (Value.int .i64) (by omega), by rw [← hi0]; exact HR18.out.mono (by omega)⟩
                          · exact .inl ⟨i - 1, by omega, congrArg (Value.int .i64) (by omega), by rw [show i - 1 + 1 = i by omega]; exact HR18.out.mono (by omega)⟩
                        case measure => first | (simp [intOf]; done) | (simp [intOf]; omega)
                  | false =>
                    rw [hsd, if_neg (by decide)] at hD hdm
                    have HD := Lib.hid hD
                    have HDM := Lib.hid hdm
                    clear hD hdm hsd
                    go_wp2_with (first
                      | (go_at_call 26; refine (ir_Defines.calls _ _ _ _ _ _ _ _ _ HD.out).mono ?_; rintro e w14 ⟨rfl, hb14⟩; have HR14 := Lib.hid (show LeR wo g6 gb g7 (some ax) c0 x dm (81 + 2 * (x.f0.length - i)) w14 from HDM.out ▸ HRD.out.below hb14); clear hb14 b0 b1 b2 b3 b4 b5 i0 i1 i2 i3 i4 i5; obtain ⟨⟨b0, b1, b2, b3, b4⟩, b5⟩ := HR14.out.cells; obtain ⟨i0, i1, i2, i3, i4, i5⟩ := HINS.out w14 HR14.out.bel)
                      | (go_at_call 27; refine (ir_Uses.calls _ _ _ _ _ _ _ _ HU.out).mono ?_; rintro e w15 ⟨v15, rfl, hR15, hb15⟩; obtain ⟨A15, c15, rfl, hl15, _⟩ := Kd.R_reads hR15; have HS15 := Lib.hid (Own1.of_R0 (t := 3) hR15); have HR15 := Lib.hid (HR14.out.below hb15); have HGX := Lib.hid HR14.out.mp.lt; clear hR15 hb15 b0 b1 b2 b3 b4 b5 i0 i1 i2 i3 i4 i5)
                      | fail)
                    have hul := usesL_len y
                    go_loopw [127] (fun v wr => ∃ q : Nat, q ≤ (usesL y).length ∧ v = .int .i64 q ∧ LeR wo g6 gb g7 (some ax) c0 x (addL dm ((usesL y).take q)) (81 + 2 * (x.f0.length - i) + q) wr ∧ Own1 3 wr w14.heap.size (.slice A15 (usesL y).length c15) (usesL y)) (fun v _ => (usesL y).length - (intOf v).toNat)
                    case atStart => exact ⟨0, Nat.zero_le _, rfl, HR15.out, HS15.out⟩
                    case round =>
                      obtain ⟨q, hq, rfl, hRq, hSq⟩ := hrel
                      obtain ⟨wq, rfl⟩ : ∃ wq, wq = wr := ⟨_, rfl⟩
                      have HRQ := Lib.hid hRq
                      have HSQ := Lib.hid hSq
                      clear hRq hSq
                      by_cases hql : q < (usesL y).length
                      · obtain ⟨a7, hA7, hqa⟩ := at_ints (own_ints HSQ.out) q hql
                        have HA7 := Lib.hid hA7
                        subst hA7
                        obtain ⟨z, hz⟩ : ∃ z, z = (usesL y).getD q 0 := ⟨_, rfl⟩
                        have hzm : z ∈ usesL y := by rw [hz, List.getD_eq_getElem?_getD, List.getElem?_eq_getElem hql]; exact List.getElem_mem hql
                        obtain ⟨hx0, hx1⟩ := HYI.out.u z hzm
                        have hadd := addL_take dm (usesL y) hql
                        rw [← hz] at hqa hadd
                        have HAD := Lib.hid hadd
                        have b5 := HRQ.out.cells.2
                        have hmp := HRQ.out.mp
                        clear hz hadd hzm
                        go_wp2_with (first
                          | (at_mapUpdate; refine wpList_put_T _ rfl _ _ _ rfl gb (81 + 2 * (x.f0.length - i) + q) _ rfl hmp (by unfold maxLen; omega) z rfl (wfI (by omega) (by omega)) rfl ?_; intro w16 hT16 hg16; have HR16 := Lib.hid (HRQ.out.put hx0 hT16 hg16); have HS16 := Lib.hid (HSQ.out.turn hg16 HGX.out); clear hT16 hg16 hmp)
                          | fail)
                        go_roundw
                        case rel => exact ⟨q + 1, by omega, by go_num, by rw [HAD.out]; exact HR16.out, HS16.out⟩
                        case measure => simp [intOf]; omega
                      · have e : q = (usesL y).length := by omega
                        subst e
                        have HRE := Lib.hid (show LeR wo g6 gb g7 (some ax) c0 x (ptN x (O k) i) (83 + 2 * (x.f0.length - i)) wq by
                          have h := HRQ.out
                          rw [List.take_length] at h
                          rw [HST.out]
                          exact h.mono (by omega))
                        have hsub : IntKind.i64.wrap ((i : Int) - 1) = (i : Int) - 1 := IntWalk.i64_in _ (by omega)
                        have HWE := Lib.hid (HWO.out.step HRE.out.bel)
                        have HBEF := Lib.hid (HWE.out.bef hc3 HCO2.out hn1 HCO.out hN3 (k : Int) (i : Int) _ (HBP.out i (by omega)))
                        go_upto_region 36 with fail
                        obtain ⟨z0, z1, z2, z3, y0, y1⟩ := HWE.out.cells
                        go_wp2_with (first
                          | (go_at_call 13; (refine HBEF.out.mono ?_; rintro e w17 ⟨A17, c17, rfl, _, hC17, hb17⟩; have HC17 := Lib.hid hC17; have HR17 := Lib.hid (HRE.out.below hb17); clear hC17 hb17 z0 z1 z2 z3 y0 y1))
                          | (go_at_call 25; (refine (eqSame_calls A17 c17 (ptN x (O k) i) g7 gb _ (HPL.out i) _ HC17.out HR17.out.b7 HR17.out.mp).mono ?_; rintro e w18 ⟨rfl, hb18⟩; have HR18 := Lib.hid (HR17.out.below hb18); clear hb18))
                          | fail)
                        go_roundw
                        case rel =>
                          by_cases hi0 : i = 0
                          · exact .inr ⟨congrArg (Value.int .i64) (by omega), by rw [← hi0]; exact HR18.out.mono (by omega)⟩
                          · exact .inl ⟨i - 1, by omega, congrArg (Value.int .i64) (by omega), by rw [show i - 1 + 1 = i by omega]; exact HR18.out.mono (by omega)⟩
                        case measure => first | (simp [intOf]; done) | (simp [intOf]; omega)
                · have hie : i = x.f0.length := by omega
                  have HRE := Lib.hid (show LeR wo g6 gb g7 A0 c0 x (ptN x (O k) i) (83 + 2 * (x.f0.length - i)) wp by
                    have h := HRD.out
                    rw [ptN_end x _ (by omega)] at h
                    rw [ptN_end x _ (by omega)]
                    exact h.mono (by omega))
                  have hlf : decide ((i : Int) < (x.f0.length : Int)) = false := decide_eq_false (by omega)
                  clear hie
                  have hsub : IntKind.i64.wrap ((i : Int) - 1) = (i : Int) - 1 := IntWalk.i64_in _ (by omega)
                  have HWE := Lib.hid (HWO.out.step HRE.out.bel)
                  have HBEF := Lib.hid (HWE.out.bef hc3 HCO2.out hn1 HCO.out hN3 (k : Int) (i : Int) _ (HBP.out i (by omega)))
                  go_upto_region 36 with fail
                  obtain ⟨z0, z1, z2, z3, y0, y1⟩ := HWE.out.cells
                  go_wp2_with (first
                    | (go_at_call 13; (refine HBEF.out.mono ?_; rintro e w17 ⟨A17, c17, rfl, _, hC17, hb17⟩; have HC17 := Lib.hid hC17; have HR17 := Lib.hid (HRE.out.below hb17); clear hC17 hb17 z0 z1 z2 z3 y0 y1))
                    | (go_at_call 25; (refine (eqSame_calls A17 c17 (ptN x (O k) i) g7 gb _ (HPL.out i) _ HC17.out HR17.out.b7 HR17.out.mp).mono ?_; rintro e w18 ⟨rfl, hb18⟩; have HR18 := Lib.hid (HR17.out.below hb18); clear hb18))
                    | fail)
                  go_roundw
                  case rel =>
                    by_cases hi0 : i = 0
                    · exact .inr ⟨congrArg (Value.int .i64) (by omega), by rw [← hi0]; exact HR18.out.mono (by omega)⟩
                    · exact .inl ⟨i - 1, by omega, congrArg (Value.int .i64) (by omega), by rw [show i - 1 + 1 = i by omega]; exact HR18.out.mono (by omega)⟩
                  case measure => first | (simp [intOf]; done) | (simp [intOf]; omega)
              · have HRE := Lib.hid (show LeR wo g6 gb g7 A0 c0 x (I k) (83 + 2 * x.f0.length) wp by
                  rw [← HIN.out]; exact hRd)
                have HWE := Lib.hid (HWO.out.step HRE.out.bel)
                obtain ⟨ai, A7, c7, hAi, hq7, hC7⟩ := HWE.out.rowI hlt
                have HAI := Lib.hid hAi
                subst hAi
                obtain ⟨z0, z1, z2, z3, y0, y1⟩ := HWE.out.cells
                have HSAME := Lib.hid (eqSame_calls A7 c7 (I k) g7 gb _ (HIL.out k hlt) wp hC7 HRE.out.b7 HRE.out.mp)
                clear hC7 hRd
                go_wp2_with (first
                  | (go_at_call 25; refine HSAME.out.mono ?_; rintro e w18 ⟨rfl, hb18⟩; have HW18 := Lib.hid (HWE.out.step hb18); clear hb18)
                  | fail)
                go_roundw
                case rel => exact ⟨k + 1, by omega, by go_num, HW18.out⟩
                case measure => simp [intOf]; omega
    · have e : k = B.length := by omega
      subst e
      go_wp2
      go_ret
      exact ⟨rfl, HWO.out.bw⟩
theorem LivenessEquations_calls (nm : ByteArray) (R : Int) (A2 : Option Addr) (c2 : Nat) (ar : List S107) (A3 : Option Addr) (c3 : Nat) (B : List S43) (w : World) (hC2 : k107.C w A2 ar.length ar) (hc2 : ar.length ≤ c2) (hC3 : k43.C w A3 B.length B) (hc3 : B.length ≤ c3) :
    Calls Try.prog 5 #[.agg #[.string nm, .int .i64 R, .slice A2 ar.length c2, .slice A3 B.length c3]] w fun e w' => e = .returned (.bool true) ∧ Below w.heap.size w w' := by
  obtain ⟨o, ho⟩ : ∃ o, o = formB R B := ⟨_, rfl⟩
  cases o with
  | false => exact LE_no nm R A2 c2 ar A3 c3 B w ho hC2 hc2 hC3 hc3
  | true => exact LE_yes nm R A2 c2 ar A3 c3 B w ho hC2 hc2 hC3 hc3
end Go.Proofs.Ythgodpmahdnnjaa
end
