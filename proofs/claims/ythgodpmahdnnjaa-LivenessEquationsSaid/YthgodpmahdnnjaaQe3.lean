/- Texts of this claim, joined by a program (part 3); what nothing uses is left out. -/
import Derived.Test.YthgodpmahdnnjaaQe2
import Derived.Test.YthgodpmahdnnjaaProg
import Derived.Maps.RangeWalk
import Derived.WideKeyEntry
import Derived.Deep.Draws
import Derived.WalkKit
import Derived.Maps.OwnSet
import Derived.Lib.Hide
import Derived.Laws.MakeOwn
import Derived.Maps.AppendAt
import Derived.Laws.Slices
import Derived.Tactics
import Derived.Lib.BufferMore
import Derived.Deep.QuietTactic
import Derived.BigQuiet
import Derived.RegionTactic
import Derived.RangeFuncLeaves
import Derived.RangeFuncNested
import Derived.RangeFuncRecord
import Derived.RangeFuncOwn
import Derived.Deep.LoopGhost
import Derived.ControlIn
import Derived.StillTailTactics
import Derived.RangeFuncBound
import Derived.RangeFuncCalls
import Derived.RangeFuncBox
import Derived.Shelf.Abstract
import Derived.Shelf.RegionOpen
import Derived.OwnWalkIn
import Derived.TacticsInMore
import Derived.LoopNIn
import Derived.LoopIn
import Derived.Deep.CutRange
import Derived.Deep.DeepCutAuto
import Derived.Deep.RegionWith
set_option linter.unusedVariables false
set_option linter.unusedSimpArgs false
section
namespace Go.Proofs.Ythgodpmahdnnjaa
open Go.RowKit Go.Maps Go.MapKept
set_option maxRecDepth 100000
noncomputable def elemB : Value → Option (DataW Unit × List MemPlace) := plainElem Try.prog 4
theorem keyedI : Keyed Try.prog 3 := int_keyed Try.underlying3
theorem keyI {x : Int} (h : (Lit.int .i64 x).wf = true) : keyOf Try.prog 3 (.int .i64 x) = some (.int .i64 x) := keyOf_int_mk Try.underlying3 h
theorem elemB_mk (x : Bool) : elemB (.bool x) = some (.lit (.bool x), []) := plainElem_bool Try.underlying4 x
theorem elemB_inv {v : Value} {y : DataW Unit × List MemPlace} (h : elemB v = some y) : ∃ c, v = .bool c := by
  unfold elemB plainElem at h
  rw [Try.underlying4] at h
  cases v <;> simp at h
  exact ⟨_, rfl⟩
theorem wfI {x : Int} (h0 : -9223372036854775808 ≤ x) (h1 : x ≤ 9223372036854775807) : (Lit.int .i64 x).wf = true := WalkArith.wf_i64 ⟨h0, h1⟩
theorem ownsMap_entry {P : Program} {k e t : TypeId} {R : Value → Option (DataW Unit × List MemPlace)} {w : World} {b n : Nat} {D : DataW Unit} (h : w.ownsMap P k R b n D) (K : Keyed P k) (ht : P.underlying t = some (.map k e)) {z : Value} (hz : ∀ u : World, (zeroValue e).run P u = .ok z u)
    (hn : n < maxLen) {key val : Value} {kl : Lit} {d : DataW Unit} {ps : List MemPlace} (hkey : keyOf P k key = some kl) (hv : R val = some (d, ps)) :
    ∃ v0 st w1, (Instr.mapEntry t (.map (some b)) key).run P w = .ok (.tuple #[v0, goInt st]) w1 ∧ w.grownBy w1 (some b) ∧ w1.heap.size = w.heap.size ∧
      ∃ w2, (Instr.entryStore t (.map (some b)) (goInt st) val).run P w1 = .ok () w2 ∧ w2.ownsMap P k R b (n + 1) (D.put kl d) ∧ w.grownBy w2 (some b) ∧ w2.heap.size = w.heap.size := by
  obtain ⟨w', hrun, hown, hg⟩ := h.update K ht hn hkey hv
  obtain ⟨es, clock, hb, F, hs, rfl⟩ := h
  obtain ⟨s1, s2, _⟩ := (stamped_iff es clock).1 F.stamped
  have hset : ∀ o, w.grownBy (ChangeMaps.setBlock w b o) (some b) := fun o => ⟨rfl, rfl, rfl, by simp [ChangeMaps.setBlock], fun i _ hi => ChangeMaps.heap_setBlock_other hb _ (fun e => hi (by rw [e]))⟩
  have hsz : ∀ o, (ChangeMaps.setBlock w b o).heap.size = w.heap.size := fun o => by simp [ChangeMaps.setBlock]
  have hsame : ∀ o, (ChangeMaps.setBlock w b o).heap[b]? = some o := fun o => ChangeMaps.heap_setBlock_same hb _
  have htwo : ∀ o o', ChangeMaps.setBlock (ChangeMaps.setBlock w b o) b o' = ChangeMaps.setBlock w b o' := fun o o' => by simp [ChangeMaps.setBlock]
  have hstore : ∀ (u : World) (es1 : Array MapEntry) (c1 st j : Nat), u.heap[b]? = some (.map es1 c1) → es1.findIdx? (fun e => (e.born : Int) == (st : Int)) = some j →
      (Instr.entryStore t (.map (some b)) (goInt st) val).run P u = .ok () (ChangeMaps.setBlock u b (.map (es1.modify j (fun e => { e with val := val })) c1)) := fun u es1 c1 st j hu hj => by
    simp [Instr.entryStore, MapKept.run_getObj_map hu, asInt, asIntOf, goInt, hj, MapKept.run_setObj_map _ hu, Result.andThen, ChangeMaps.setBlock]
  have fin : ∀ es' clock', (Instr.mapUpdate t (.map (some b)) key val).run P w = .ok () (ChangeMaps.setBlock w b (.map es' clock')) → (ChangeMaps.setBlock w b (.map es' clock')).ownsMap P k R b (n + 1) ((DataW.map ((es.toList.map (WideElems.rg P k R)).foldr DataW.insert [])).put kl d) := fun es' clock' hr => by
    rw [hr] at hrun
    cases hrun
    exact hown
  rcases K.find w hkey es.toList F.keys with ⟨h1, h2⟩ | ⟨j, e0, h1, h2, h3⟩
  · have hidx : (es.push ⟨key, z, clock⟩).findIdx? (fun e => (e.born : Int) == (clock : Int)) = some es.size := by
      rw [Array.findIdx?_eq_some_iff_getElem]
      refine ⟨by simp, by simp, fun i hi => ?_⟩
      have hi' : i < es.size := by simpa using hi
      rw [Array.getElem_push_lt hi']
      have := s1 es[i] (by simp)
      simp only [beq_iff_eq]
      omega
    refine ⟨z, clock, ChangeMaps.setBlock w b (.map (es.push ⟨key, z, clock⟩) (clock + 1)), ?_, hset _, hsz _, ChangeMaps.setBlock w b (.map (es.push ⟨key, val, clock⟩) (clock + 1)), ?_, fin _ _ ?_, hset _, hsz _⟩
    · simp [Instr.mapEntry, run_underlying ht, MapKept.run_getObj_map hb, K.check w false hkey, h1, hz, MapKept.run_setObj_map _ hb, Result.andThen, ChangeMaps.setBlock]
    · have hmod : (es.push ⟨key, z, clock⟩).modify es.size (fun e => { e with val := val }) = es.push ⟨key, val, clock⟩ := by
        apply Array.ext_getElem?
        intro i
        rw [Array.getElem?_modify, Array.getElem?_push, Array.getElem?_push]
        by_cases hi : i = es.size
        · subst hi; simp
        · simp [hi, Ne.symm hi]
      rw [hstore _ _ _ _ _ (hsame _) hidx, hmod, htwo]
    · simp [Instr.mapUpdate, run_underlying ht, MapKept.run_getObj_map hb, K.check w false hkey, h1, MapKept.run_setObj_map _ hb, Result.andThen, ChangeMaps.setBlock]
  · have hj : es[j]? = some e0 := by simpa using h2
    have hje : ({ e0 with key := key } : MapEntry) = e0 := by rw [← h3]
    have hstay : es.modify j (fun e => { e with key := key }) = es := by
      apply Array.ext_getElem?
      intro i
      rw [Array.getElem?_modify]
      split
      · rename_i hi; subst hi; rw [hj]; simp [hje]
      · rfl
    have hidx : es.findIdx? (fun e => ((e.born : Nat) : Int) == ((e0.born : Nat) : Int)) = some j := by
      rw [WideElems.findIdx_arr]
      exact WideElems.findIdx_born s2 h2
    have hmod : es.modify j (fun e => { e with val := val }) = es.modify j (fun e' => { e' with key := key, val := val }) := by
      apply Array.ext_getElem?
      intro i
      rw [Array.getElem?_modify, Array.getElem?_modify]
      split
      · rename_i hi; subst hi; rw [hj]; simp [← h3]
      · rfl
    refine ⟨e0.val, e0.born, ChangeMaps.setBlock w b (.map es clock), ?_, hset _, hsz _, ChangeMaps.setBlock w b (.map (es.modify j (fun e' => { e' with key := key, val := val })) clock), ?_, fin _ _ ?_, hset _, hsz _⟩
    · simp [Instr.mapEntry, run_underlying ht, MapKept.run_getObj_map hb, K.check w false hkey, h1, hj, h3, K.stays w hkey, hstay, MapKept.run_setObj_map _ hb, Result.andThen, ChangeMaps.setBlock]
    · rw [hstore _ _ _ _ _ (hsame _) hidx, hmod, htwo]
    · simp [Instr.mapUpdate, run_underlying ht, MapKept.run_getObj_map hb, K.check w false hkey, h1, hj, h3, K.stays w hkey, MapKept.run_setObj_map _ hb, Result.andThen, ChangeMaps.setBlock]
def IsSet (w : World) (b m : Nat) (S : Int → Bool) : Prop :=
  ∃ n D, w.ownsMap Try.prog 3 elemB b n D ∧ n ≤ m ∧ ∀ x, (Lit.int .i64 x).wf = true → Maps.has D (.int .i64 x) = S x
theorem IsSet.mono {w : World} {b m m' : Nat} {S : Int → Bool} (h : IsSet w b m S) (hm : m ≤ m') : IsSet w b m' S := by
  obtain ⟨n, D, h1, h2, h3⟩ := h
  exact ⟨n, D, h1, by omega, h3⟩
theorem IsSet.congr {w : World} {b m : Nat} {S S' : Int → Bool} (h : IsSet w b m S) (hs : ∀ x, (Lit.int .i64 x).wf = true → S x = S' x) : IsSet w b m S' := by
  obtain ⟨n, D, h1, h2, h3⟩ := h
  exact ⟨n, D, h1, h2, fun x hx => (h3 x hx).trans (hs x hx)⟩
theorem IsSet.kept {w w' : World} {b m : Nat} {S : Int → Bool} {row : Option Nat} (h : IsSet w b m S) (hg : w.grownBy w' row) (hne : some b ≠ row) : IsSet w' b m S := by
  obtain ⟨n, D, h1, h2, h3⟩ := h
  exact ⟨n, D, h1.kept hg hne, h2, h3⟩
theorem IsSet.lt {w : World} {b m : Nat} {S : Int → Bool} (h : IsSet w b m S) : b < w.heap.size := by
  obtain ⟨n, D, h1, h2, h3⟩ := h
  exact h1.lt
theorem IsSet.below {w w' : World} {b m B : Nat} {S : Int → Bool} (h : IsSet w b m S) (hb : Below B w w') (hlt : b < B) : IsSet w' b m S := by
  obtain ⟨n, D, h1, h2, h3⟩ := h
  obtain ⟨es, clock, hbl, r⟩ := h1
  exact ⟨n, D, ⟨es, clock, (hb.block b hlt).trans hbl, r⟩, h2, h3⟩
theorem IsSet.same {w w' : World} {b m : Nat} {S : Int → Bool} (h : IsSet w b m S) (hb : w'.heap[b]? = w.heap[b]?) : IsSet w' b m S := by
  obtain ⟨n, D, h1, h2, h3⟩ := h
  obtain ⟨es, clock, hbl, r⟩ := h1
  exact ⟨n, D, ⟨es, clock, hb.trans hbl, r⟩, h2, h3⟩
theorem has_put_int {D : DataW Unit} (hD : Maps.IsMap D) (y x : Int) (d : DataW Unit) : Maps.has (D.put (.int .i64 y) d) (.int .i64 x) = (x == y || Maps.has D (.int .i64 x)) := by
  by_cases h : x = y
  · subst h; rw [Maps.has_put_same hD (show WideAt.IsKeyLit (.int .i64 x) from trivial)]; simp
  · rw [Maps.has_put_other (by simpa using h)]
    simp [h]
theorem IsSet.entry {w : World} {b m : Nat} {S : Int → Bool} (h : IsSet w b m S) (hm : m < maxLen) (y : Int) (hy : (Lit.int .i64 y).wf = true) :
    ∃ v0 st w1, (Instr.mapEntry 56 (.map (some b)) (.int .i64 y)).run Try.prog w = .ok (.tuple #[v0, goInt st]) w1 ∧ w.grownBy w1 (some b) ∧ w1.heap.size = w.heap.size ∧
      ∃ w2, (Instr.entryStore 56 (.map (some b)) (goInt st) (.bool true)).run Try.prog w1 = .ok () w2 ∧ IsSet w2 b (m + 1) (fun x => x == y || S x) ∧ w.grownBy w2 (some b) ∧ w2.heap.size = w.heap.size := by
  obtain ⟨n, D, h1, h2, h3⟩ := h
  obtain ⟨v0, st, w1, r1, g1, s1, w2, r2, o2, g2, s2⟩ := ownsMap_entry (z := .bool false) h1 keyedI Try.underlying56 (fun u => by kernel_rfl) (by omega) (keyI hy) (elemB_mk true)
  exact ⟨v0, st, w1, r1, g1, s1, w2, r2, ⟨_, _, o2, by omega, fun x hx => by rw [has_put_int h1.isMap, h3 x hx]⟩, g2, s2⟩
theorem IsSet.size {w : World} {b m N : Nat} {S : Int → Bool} (h : IsSet w b m S) (hN : N ≤ 1000000) (hS : ∀ x, S x = true → 0 ≤ x ∧ x < N) :
    ∃ n D, w.ownsMap Try.prog 3 elemB b n D ∧ n ≤ m ∧ (∀ x, (Lit.int .i64 x).wf = true → Maps.has D (.int .i64 x) = S x) ∧ Maps.size D = (List.range N).countP (fun i : Nat => S i) := by
  obtain ⟨n, D, h1, h2, h3⟩ := h
  refine ⟨n, D, h1, h2, h3, ?_⟩
  have hint : ∀ kl, Maps.has D kl = true → ∃ x, kl = .int .i64 x ∧ (Lit.int .i64 x).wf = true := by
    intro kl hk
    obtain ⟨es, clock, hb, F, hs, rfl⟩ := h1
    obtain ⟨p, hp, hpk⟩ := List.any_eq_true.1 hk
    obtain ⟨e, he, rfl⟩ := List.mem_map.1 (mem_sorted.1 hp)
    obtain ⟨y, hy⟩ := F.reads e he
    rw [WideElems.rg_of hy] at hpk
    obtain ⟨x, _, hx, hw⟩ := Maps.keyOf_int_inv Try.underlying3 (WideElems.rd_key hy)
    exact ⟨x, by rw [← WideAt.sameKey_eq hpk, hx], hw⟩
  obtain ⟨es, rfl, hpw, hkey⟩ := h1.entries keyedI
  have hmem : ∀ kl, Maps.has (.map es) kl = true ↔ kl ∈ es.map (·.1) := by
    intro kl
    constructor
    · intro hk
      obtain ⟨p, hp, hpk⟩ := List.any_eq_true.1 hk
      exact List.mem_map.2 ⟨p, hp, WideAt.sameKey_eq hpk⟩
    · intro hk
      obtain ⟨p, hp, rfl⟩ := List.mem_map.1 hk
      exact List.any_eq_true.2 ⟨p, hp, WideAt.sameKey_self (hkey p hp)⟩
  have hnd : (es.map (·.1)).Nodup := by
    unfold List.Nodup
    rw [List.pairwise_map]
    exact hpw
  have hperm : (es.map (·.1)).Perm (((List.range N).filter (fun i : Nat => S i)).map (fun i : Nat => Lit.int .i64 i)) := by
    rw [List.perm_ext_iff_of_nodup hnd (by
      unfold List.Nodup
      rw [List.pairwise_map]
      refine (List.nodup_range.filter _).imp (fun hne e => hne ?_)
      injection e with _ e
      omega)]
    intro kl
    rw [← hmem, List.mem_map]
    constructor
    · intro hk
      obtain ⟨x, rfl, hw⟩ := hint kl hk
      rw [h3 x hw] at hk
      obtain ⟨h0, hx1⟩ := hS x hk
      refine ⟨x.toNat, List.mem_filter.2 ⟨List.mem_range.2 (by omega), ?_⟩, ?_⟩
      · rw [Int.toNat_of_nonneg h0]; exact hk
      · rw [Int.toNat_of_nonneg h0]
    · rintro ⟨i, hi, rfl⟩
      obtain ⟨hi1, hi2⟩ := List.mem_filter.1 hi
      have := List.mem_range.1 hi1
      rw [h3 _ (wfI (by omega) (by omega))]
      exact hi2
  have := hperm.length_eq
  simp only [List.length_map] at this
  rw [List.countP_eq_length_filter]
  exact this
theorem ranges_left {w : World} {b r n cnt : Nat} {D : DataW Unit} {left : Lit → Bool} (h : w.ranges Try.prog 3 elemB b r n D left cnt) {kl : Lit} (hl : left kl = true) : Maps.has D kl = true := by
  obtain ⟨es, clock, since, seen, c0, hb, F, hs, rfl, hr, _, _, _, h2, _⟩ := h
  obtain ⟨x, hx, rfl⟩ := h2 kl hl
  obtain ⟨y, hy⟩ := F.reads x hx
  exact List.any_eq_true.2 ⟨_, mem_sorted.2 (List.mem_map.2 ⟨x, hx, rfl⟩), WideAt.sameKey_self (by rw [WideElems.rg_of hy]; exact keyedI.key (WideElems.rd_key hy))⟩
theorem sameKey_int (x y : Int) : (Lit.int .i64 x).sameKey (.int .i64 y) = (x == y) := by
  by_cases h : x = y
  · subst h; rw [WideAt.sameKey_self (show WideAt.IsKeyLit (.int .i64 x) from trivial)]; simp
  · rw [Maps.sameKey_ne (by simpa using h)]; simp [h]
section
variable (w : World) {ops : Array Oper} {rest : List Oper} {o : Oper} {a : Act} {Q : Exit → Act → World → Prop}
end
end Go.Proofs.Ythgodpmahdnnjaa
end
section
namespace Go.Proofs.Ythgodpmahdnnjaa
open Go.RowKit Go.Maps Go.MapKept
set_option maxRecDepth 100000
def IsT (w : World) (b m : Nat) (S : Int → Bool) : Prop :=
  ∃ n D, w.ownsMap Try.prog 3 elemB b n D ∧ n ≤ m ∧ (∀ x, (Lit.int .i64 x).wf = true → Maps.has D (.int .i64 x) = S x) ∧ ∀ x, (Lit.int .i64 x).wf = true → D.atKey (.int .i64 x) (.lit (.bool false)) = .lit (.bool (S x))
section
variable {w w' : World} {b m m' : Nat} {S S' : Int → Bool}
theorem IsT.set (h : IsT w b m S) : IsSet w b m S := by
  obtain ⟨n, D, h1, h2, h3, _⟩ := h
  exact ⟨n, D, h1, h2, h3⟩
theorem IsT.mono (h : IsT w b m S) (hm : m ≤ m') : IsT w b m' S := by
  obtain ⟨n, D, h1, h2, h3⟩ := h
  exact ⟨n, D, h1, by omega, h3⟩
theorem IsT.congr (h : IsT w b m S) (hs : ∀ x, (Lit.int .i64 x).wf = true → S x = S' x) : IsT w b m S' := by
  obtain ⟨n, D, h1, h2, h3, h4⟩ := h
  exact ⟨n, D, h1, h2, fun x hx => (h3 x hx).trans (hs x hx), fun x hx => by rw [h4 x hx, hs x hx]⟩
theorem IsT.kept {row : Option Nat} (h : IsT w b m S) (hg : w.grownBy w' row) (hne : some b ≠ row) : IsT w' b m S := by
  obtain ⟨n, D, h1, h2, h3⟩ := h
  exact ⟨n, D, h1.kept hg hne, h2, h3⟩
theorem IsT.lt (h : IsT w b m S) : b < w.heap.size := h.set.lt
theorem IsT.same (h : IsT w b m S) (hb : w'.heap[b]? = w.heap[b]?) : IsT w' b m S := by
  obtain ⟨n, D, h1, h2, h3⟩ := h
  obtain ⟨es, clock, hbl, r⟩ := h1
  exact ⟨n, D, ⟨es, clock, hb.trans hbl, r⟩, h2, h3⟩
theorem IsT.below {B : Nat} (h : IsT w b m S) (hb : Below B w w') (hlt : b < B) : IsT w' b m S := h.same (hb.block b hlt)
theorem isT_made (w : World) : IsT (w.alloc (.map #[] 0)) w.heap.size 0 (fun _ => false) :=
  ⟨0, _, World.ownsMap_made w _ _ _, Nat.le_refl _, fun _ _ => rfl, fun _ _ => rfl⟩
theorem IsT.look (h : IsT w b m S) {x : Int} (hx : (Lit.int .i64 x).wf = true) : (Instr.lookup 56 (.map (some b)) (.int .i64 x) false).run Try.prog w = .ok (.bool (S x)) w := by
  obtain ⟨n, D, h1, h2, h3, h4⟩ := h
  obtain ⟨v, ps, hrun, hv⟩ := h1.lookup (t := 56) (e := 4) (z := .bool false) keyedI Try.underlying56 (by kernel_rfl) (elemB_mk false) (keyI hx)
  obtain ⟨c, rfl⟩ := elemB_inv hv
  rw [elemB_mk, h4 x hx] at hv
  injection hv with hv
  injection hv with hv _
  injection hv with hv
  injection hv with hv
  rw [hrun, hv]
end
theorem has_del_int {D : DataW Unit} (y x : Int) : Maps.has (D.del (.int .i64 y)) (.int .i64 x) = (!(x == y) && Maps.has D (.int .i64 x)) := by
  by_cases h : x = y
  · subst h; rw [Maps.has_del_same]; simp
  · rw [Maps.has_del_other (by simpa using h)]
    simp [h]
section
variable (w : World) {ops : Array Oper} {rest : List Oper} {o : Oper} {a : Act} {Q : Exit → Act → World → Prop}
theorem wpList_put_T (hg : o.guard = none) (m x v : Operand) (hop : o.op = Op.mapUpdate 56 m x v) (b N : Nat) (S : Int → Bool) (hm : a.eval m = .map (some b)) (hset : IsT w b N S) (hN : N < maxLen) (y : Int) (hx : a.eval x = .int .i64 y) (hy : (Lit.int .i64 y).wf = true) (hv : a.eval v = .bool true)
    (hK : ∀ w', IsT w' b (N + 1) (fun x => x == y || S x) → w.grownBy w' (some b) → wpList Try.prog ops Q rest (a.put o.dst undef) w') :
    wpList Try.prog ops Q (o :: rest) a w := by
  obtain ⟨n, D, hown, hn, hhas, hat⟩ := hset
  exact wpList_mapUpdate_own w hg m x v 56 hop 3 4 keyedI Try.underlying56 elemB b n D hm hown (by omega) _ _ _ hx hv (keyI hy) _ _ (elemB_mk true)
    (fun w' h1 h2 => hK w' ⟨_, _, h1, by omega, fun x hx => by rw [has_put_int hown.isMap, hhas x hx], fun x hx => by
      by_cases h : x = y
      · subst h; rw [Maps.atKey_put_same hown.isMap (show WideAt.IsKeyLit (.int .i64 x) from trivial)]; simp
      · rw [Maps.atKey_put_other (by simpa using h), hat x hx]; simp [h]⟩ h2)
theorem wpList_del_T (hg : o.guard = none) (m x : Operand) (hop : o.op = Op.call { callee := Callee.builtin Builtin.delete, args := #[m, x], argTypes := #[56, 3] }) (b N : Nat) (S : Int → Bool) (hm : a.eval m = .map (some b)) (hset : IsT w b N S) (y : Int) (hx : a.eval x = .int .i64 y) (hy : (Lit.int .i64 y).wf = true)
    (hK : ∀ w', IsT w' b N (fun x => !(x == y) && S x) → w.grownBy w' (some b) → wpList Try.prog ops Q rest (a.put o.dst (.tuple #[])) w') :
    wpList Try.prog ops Q (o :: rest) a w := by
  obtain ⟨n, D, hown, hn, hhas, hat⟩ := hset
  exact wpList_delete_own w hg m x 56 3 hop 4 keyedI Try.underlying56 elemB b n D hm hown _ _ hx (keyI hy)
    (fun w' h1 h2 => hK w' ⟨_, _, h1, hn, fun x hx => by rw [has_del_int, hhas x hx], fun x hx => by
      by_cases h : x = y
      · subst h; rw [Maps.atKey_del_same]; simp
      · rw [Maps.atKey_del_other (by simpa using h), hat x hx]; simp [h]⟩ h2.grown)
end
structure RangT (w : World) (b r : Nat) (S : Int → Bool) (left : Int → Bool) (cnt : Nat) : Prop where
  out : ∃ n D l, w.ranges Try.prog 3 elemB b r n D l cnt ∧ (∀ x, (Lit.int .i64 x).wf = true → Maps.has D (.int .i64 x) = S x) ∧ (∀ x, (Lit.int .i64 x).wf = true → D.atKey (.int .i64 x) (.lit (.bool false)) = .lit (.bool (S x))) ∧ (∀ x, l (.int .i64 x) = left x)
theorem RangT.kept {w w' : World} {b r : Nat} {S left : Int → Bool} {cnt : Nat} {row : Option Nat} (h : RangT w b r S left cnt) (hg : w.grownBy w' row) (hb : some b ≠ row) (hr : some r ≠ row) : RangT w' b r S left cnt := by
  obtain ⟨n, D, l, h1, h2, h3⟩ := h.out
  exact ⟨⟨n, D, l, h1.kept hg hb hr, h2, h3⟩⟩
theorem RangT.left_eq {w : World} {b r : Nat} {S left : Int → Bool} {cnt : Nat} (h : RangT w b r S left cnt) : w.rangeLeft b r = cnt := by
  obtain ⟨n, D, l, h1, _⟩ := h.out
  exact h1.left_eq
section
variable (w : World) {ops : Array Oper} {rest : List Oper} {o : Oper} {a : Act} {Q : Exit → Act → World → Prop}
theorem wpList_range_T (hg : o.guard = none) (m : Operand) (hop : o.op = Op.range 56 m) (b N : Nat) (S : Int → Bool) (hm : a.eval m = .map (some b)) (hset : IsT w b N S)
    (hK : ∀ w' left cnt, RangT w' b w.heap.size S left cnt → (∀ x, (Lit.int .i64 x).wf = true → left x = S x) → w.grownBy w' none → w'.heap.size = w.heap.size + 1 → wpList Try.prog ops Q rest (a.put o.dst (.pointer (some ⟨w.heap.size, 0, none⟩))) w') :
    wpList Try.prog ops Q (o :: rest) a w := by
  obtain ⟨n, D, hown, _, hhas, hat⟩ := hset
  exact wpList_range_own w hg m 56 hop 3 4 keyedI Try.underlying56 elemB b n D hm hown (fun w' h1 h2 h3 => hK w' (fun x => Maps.has D (.int .i64 x)) _ ⟨⟨n, D, _, h1, hhas, hat, fun _ => rfl⟩⟩ hhas h2 h3)
theorem wpList_next_T (hg : o.guard = none) (it : Operand) (hop : o.op = Op.next it false) (b r : Nat) (S left : Int → Bool) (cnt : Nat) (hit : a.eval it = .pointer (some ⟨r, 0, none⟩)) (h : RangT w b r S left cnt)
    (hDone : (∀ x, (Lit.int .i64 x).wf = true → left x = false) → wpList Try.prog ops Q rest (a.put o.dst (.tuple #[.bool false])) w)
    (hMore : ∀ (x : Int) (w' : World) (cnt' : Nat), (Lit.int .i64 x).wf = true → S x = true → left x = true → RangT w' b r S (fun z => left z && !(z == x)) cnt' → cnt' < cnt →
      w.grownBy w' (some r) → w'.heap.size = w.heap.size → (Instr.entry (.pointer (some ⟨r, 0, none⟩))).run Try.prog w' = .ok (.tuple #[.int .i64 x, .bool true]) w' → wpList Try.prog ops Q rest (a.put o.dst (.tuple #[.bool true, .int .i64 x, .bool true])) w') :
    wpList Try.prog ops Q (o :: rest) a w := by
  obtain ⟨n, D, l, h1, hhas, hat, hl⟩ := h.out
  refine wpList_next_ranges w hg it hop 3 keyedI elemB (Value.int .i64) Value.bool (fun key kl hkey => by obtain ⟨x, rfl, _⟩ := Maps.keyOf_int_inv Try.underlying3 hkey; exact ⟨x, rfl⟩) (fun v y hv => elemB_inv hv) b r n D l cnt hit h1
    (fun _ h0 => hDone (fun x _ => (hl x).symm.trans (h0 _))) (fun x c kl y w' cnt' hkey hlk hy hall hrg hlt hgr hsz hen => ?_)
  obtain ⟨x', ex, rfl, hwx⟩ := Maps.keyOf_int_inv Try.underlying3 hkey
  cases ex
  have hS : S x = true := by rw [← hhas x hwx]; exact ranges_left h1 hlk
  have hc : c = true := by
    rw [elemB_mk] at hy
    injection hy with hy
    have e := (hall (.lit (.bool false))).symm.trans (hat x hwx)
    rw [← hy, hS] at e
    injection e with e
    injection e with e
  subst hc
  exact hMore x w' cnt' hwx hS (by rw [← hl]; exact hlk) ⟨⟨n, D, _, hrg, hhas, hat, fun z => by simp [hl, sameKey_int]⟩⟩ hlt hgr hsz hen
end
theorem count_strike {N : Nat} {left : Int → Bool} {x : Int} (h0 : 0 ≤ x) (h1 : x < N) (hl : left x = true) :
    (List.range N).countP (fun i : Nat => left i) = (List.range N).countP (fun i : Nat => left i && !((i : Int) == x)) + 1 := by
  have key : ∀ l : List Nat, l.Nodup → l.countP (fun i : Nat => left i) = l.countP (fun i : Nat => left i && !((i : Int) == x)) + (if x.toNat ∈ l then 1 else 0) := by
    intro l
    induction l with
    | nil => intro _; rfl
    | cons a l ih =>
      intro hn
      obtain ⟨ha, hn⟩ := List.nodup_cons.1 hn
      rw [List.countP_cons, List.countP_cons, ih hn]
      by_cases e : a = x.toNat
      · have ex : (a : Int) = x := by omega
        rw [if_neg (show ¬ x.toNat ∈ l from fun hm => ha (e ▸ hm)), if_pos (show x.toNat ∈ a :: l from by rw [← e]; exact List.mem_cons_self), ex, hl]
        simp
      · have ex : ((a : Int) == x) = false := by simp; omega
        rw [ex]
        have : (x.toNat ∈ a :: l) ↔ x.toNat ∈ l := by
          rw [List.mem_cons]
          exact ⟨fun h => h.resolve_left (fun h => e h.symm), .inr⟩
        simp only [Bool.not_false, Bool.and_true, this]
        omega
  rw [key _ List.nodup_range, if_pos (List.mem_range.2 (by omega))]
end Go.Proofs.Ythgodpmahdnnjaa
end
section
namespace Go.Proofs.Ythgodpmahdnnjaa
open Go.RowKit Go.Proofs.YthgodpmahdnnjaaW.PrintWords Go.Proofs.YthgodpmahdnnjaaW.PrintMore Go.Proofs.Ythgodpmahdnnjaa.H
def rowN (R m : Nat) : List Int := if R = 0 then [] else [(m : Int)]
def clr (m r : Nat) : Nat := m ^^^ (m &&& 2 ^ r)
theorem bit_pow (r i : Nat) : (2 ^ r).testBit i = decide (r = i) := by
  rw [Nat.testBit_two_pow]
theorem bit_add (m r i : Nat) : (m ||| 2 ^ r).testBit i = (m.testBit i || decide (r = i)) := by rw [Nat.testBit_or, bit_pow]
theorem bit_clr (m r i : Nat) : (clr m r).testBit i = (m.testBit i && !decide (r = i)) := by
  unfold clr
  rw [Nat.testBit_xor, Nat.testBit_and, bit_pow]
  cases m.testBit i <;> cases decide (r = i) <;> rfl
theorem pow_lt {r R : Nat} (h : r < R) : 2 ^ r < 2 ^ R := Nat.pow_lt_pow_right (by decide) h
theorem add_lt {m r R : Nat} (hm : m < 2 ^ R) (hr : r < R) : m ||| 2 ^ r < 2 ^ R := Nat.or_lt_two_pow hm (pow_lt hr)
theorem clr_lt {m r R : Nat} (hm : m < 2 ^ R) (_hr : r < R) : clr m r < 2 ^ R := Nat.xor_lt_two_pow hm (Nat.lt_of_le_of_lt Nat.and_le_left hm)
theorem u64_wrap {n : Int} (h0 : 0 ≤ n) (h1 : n < 2 ^ 40) : IntKind.u64.wrap n = n := by
  have : IntKind.u64.wrap n = n % 18446744073709551616 := by simp [IntKind.wrap, IntKind.bits, IntKind.signed]
  rw [this]; omega
theorem pow_le40 {R : Nat} (h : R ≤ 40) : 2 ^ R ≤ 2 ^ 40 := Nat.pow_le_pow_right (by decide) h
theorem u64_or {a b : Nat} (ha : a < 2 ^ 40) (hb : b < 2 ^ 40) : Go.bits .or .u64 a b = ((a ||| b : Nat) : Int) :=
  (bits_nat .u64 40 (by decide) (fun n h0 h1 => u64_wrap h0 h1) a b ha hb).2
theorem u64_and {a b : Nat} (ha : a < 2 ^ 40) (hb : b < 2 ^ 40) : Go.bits .and .u64 a b = ((a &&& b : Nat) : Int) :=
  (bits_nat .u64 40 (by decide) (fun n h0 h1 => u64_wrap h0 h1) a b ha hb).1
theorem u64_andNot {m r : Nat} (hm : m < 2 ^ 40) (hr : r < 40) : Go.bits .andNot .u64 m ((2 ^ r : Nat) : Int) = ((clr m r : Nat) : Int) := by
  have hb : 2 ^ r < 2 ^ 40 := pow_lt hr
  have ha' : m % 2 ^ 64 = m := Nat.mod_eq_of_lt (by omega)
  have hb' : 2 ^ r % 2 ^ 64 = 2 ^ r := Nat.mod_eq_of_lt (by omega)
  have hc := clr_lt hm hr
  show IntKind.u64.wrap ((BitVec.ofInt 64 (m : Int) &&& ~~~ BitVec.ofInt 64 ((2 ^ r : Nat) : Int)).toNat : Int) = _
  have e : (BitVec.ofInt 64 (m : Int) &&& ~~~ BitVec.ofInt 64 ((2 ^ r : Nat) : Int)).toNat = clr m r := by
    apply Nat.eq_of_testBit_eq
    intro i
    rw [bit_clr, BitVec.ofInt_natCast, BitVec.ofInt_natCast, ← BitVec.getLsbD, BitVec.getLsbD_and, BitVec.getLsbD_not, BitVec.getLsbD_ofNat, BitVec.getLsbD_ofNat, bit_pow]
    by_cases hi : i < 64
    · simp [hi]
    · have : m.testBit i = false := Nat.testBit_lt_two_pow (Nat.lt_of_lt_of_le hm (Nat.pow_le_pow_right (by decide) (by omega)))
      simp [hi, this]
  rw [e]
  exact u64_wrap (Int.natCast_nonneg _) (by exact_mod_cast hc)
theorem u64_shl {r : Nat} (hr : r < 40) : shl .u64 1 (r : Int) = ((2 ^ r : Nat) : Int) := by
  unfold shl
  have h := pow_lt hr
  rw [Int.toNat_natCast, Nat.min_eq_left (by simp [IntKind.bits]; omega)]
  have e : (1 : Int) * 2 ^ r = ((2 ^ r : Nat) : Int) := by rw [Int.one_mul]; exact_mod_cast rfl
  rw [e]
  exact u64_wrap (Int.natCast_nonneg _) (by exact_mod_cast h)
theorem u64_bit {m r : Nat} (hm : m < 2 ^ 40) (hr : r < 40) : (Go.bits .and .u64 (shr .u64 (m : Int) (r : Int)) 1 == 1) = m.testBit r := by
  unfold shr
  rw [Int.toNat_natCast, Nat.min_eq_left (by simp [IntKind.bits]; omega)]
  have e : (m : Int) / 2 ^ r = ((m >>> r : Nat) : Int) := by rw [Nat.shiftRight_eq_div_pow]; exact_mod_cast rfl
  have hlt : m >>> r < 2 ^ 40 := Nat.lt_of_le_of_lt (Nat.shiftRight_le m r) hm
  have := u64_and hlt (show 1 < 2 ^ 40 by decide)
  rw [e]
  rw [show ((1 : Nat) : Int) = 1 from rfl] at this
  rw [this]
  have h1 : (m >>> r) &&& 1 = (m.testBit r).toNat := by
    rw [Nat.testBit, Nat.and_comm 1]
    have : (m >>> r) &&& 1 = 0 ∨ (m >>> r) &&& 1 = 1 := by rw [Nat.and_one_is_mod]; omega
    rcases this with h | h <;> simp [h]
  rw [h1]
  cases m.testBit r <;> rfl
theorem w64_0 : wrap64 0 = 0 := by unfold wrap64; omega
theorem w64_1 : wrap64 1 = 1 := by unfold wrap64; omega
theorem div64 {r : Nat} (h : r < 40) : wrap64 (Int.tdiv (r : Int) 64) = 0 := by
  have : Int.tdiv (r : Int) 64 = 0 := by rw [Int.tdiv_eq_zero_of_lt] <;> omega
  rw [this, w64_0]
theorem mod64 {r : Nat} (h : r < 40) : Int.tmod (r : Int) 64 = r := by rw [Int.tmod_eq_of_lt] <;> omega
theorem newSet_f {R : Nat} (hR : R ≤ 40) : liveness_newSet.f (R : Int) = some (rowN R 0) := by
  unfold liveness_newSet.f rowN
  by_cases h : R = 0
  · subst h
    have e1 : wrap64 (((0 : Nat) : Int) + 63) = 63 := by unfold wrap64; omega
    have e2 : Int.tdiv 63 64 = 0 := rfl
    rw [e1, e2, w64_0]; rfl
  · have e : wrap64 (Int.tdiv (wrap64 ((R : Int) + 63)) 64) = 1 := by
      have e1 : wrap64 ((R : Int) + 63) = (R : Int) + 63 := by unfold wrap64; omega
      have e2 : Int.tdiv ((R : Int) + 63) 64 = 1 := by rw [Int.tdiv_eq_ediv_of_nonneg (by omega)]; omega
      rw [e1, e2, w64_1]
    rw [e, if_neg h]; rfl
theorem add_f {R m r : Nat} (hR : R ≤ 40) (hm : m < 2 ^ R) (hr : r < R) : liveness_set_add.f (rowN R m) (r : Int) = some (rowN R (m ||| 2 ^ r)) := by
  unfold liveness_set_add.f rowN
  rw [div64 (by omega), mod64 (by omega), if_neg (show ¬ R = 0 by omega), if_neg (show ¬ R = 0 by omega), if_pos (show (0 : Int) ≤ 0 by omega), if_pos (by simp), if_pos (show (0 : Int) ≤ r by omega), u64_shl (by omega)]
  have h40 := pow_le40 hR
  have := u64_or (a := m) (b := 2 ^ r) (by omega) (by have := pow_lt hr; omega)
  show some [Go.bits .or .u64 (m : Int) _] = _
  rw [this]
theorem remove_f {R m r : Nat} (hR : R ≤ 40) (hm : m < 2 ^ R) (hr : r < R) : liveness_set_remove.f (rowN R m) (r : Int) = some (rowN R (clr m r)) := by
  unfold liveness_set_remove.f rowN
  rw [div64 (by omega), mod64 (by omega), if_neg (show ¬ R = 0 by omega), if_neg (show ¬ R = 0 by omega), if_pos (show (0 : Int) ≤ 0 by omega), if_pos (by simp), if_pos (show (0 : Int) ≤ r by omega), u64_shl (by omega)]
  have h40 := pow_le40 hR
  have := u64_andNot (m := m) (r := r) (by omega) (by omega)
  show some [Go.bits .andNot .u64 (m : Int) _] = _
  rw [this]
theorem has_f {R m r : Nat} (hR : R ≤ 40) (hm : m < 2 ^ R) (h0 : R ≠ 0) (hr : r < 40) : liveness_set_has.f (rowN R m) (r : Int) = some (m.testBit r) := by
  unfold liveness_set_has.f rowN
  rw [div64 hr, mod64 hr, if_neg h0, if_pos (by omega), if_pos (by simp), if_pos (by omega)]
  have h40 := pow_le40 hR
  show some (Go.bits .and .u64 (shr .u64 (m : Int) (r : Int)) 1 == 1) = _
  rw [u64_bit (by omega) hr]
theorem join_f {R a b k : Nat} (hR : R ≤ 40) (ha : a < 2 ^ R) (hb : b < 2 ^ R) (hk : 3 ≤ k) : liveness_set_join.f k (rowN R a) (rowN R b) = some (rowN R (a ||| b)) := by
  have h40 := pow_le40 hR
  obtain ⟨k, rfl⟩ : ∃ j, k = j + 3 := ⟨k - 3, by omega⟩
  unfold liveness_set_join.f rowN
  by_cases h : R = 0
  · simp [h, liveness_set_join.l0]
  · rw [if_neg h, if_neg h, if_neg h]
    have := u64_or (a := a) (b := b) (by omega) (by omega)
    show liveness_set_join.l0 (k + 2 + 1) _ _ 1 0 = _
    rw [liveness_set_join.l0, if_pos (by omega), if_pos (by omega), if_pos (by simp), if_pos (by simp)]
    rw [show wrap64 (0 + 1) = 1 from w64_1]
    show liveness_set_join.l0 (k + 1 + 1) [Go.bits .or .u64 (a : Int) (b : Int)] [(b : Int)] 1 1 = _
    rw [this, liveness_set_join.l0, if_neg (by omega)]
theorem equal_f {R a b k : Nat} (_hR : R ≤ 40) (ha : a < 2 ^ R) (hb : b < 2 ^ R) (hk : 3 ≤ k) : liveness_set_equal.f k (rowN R a) (rowN R b) = some (decide (a = b)) := by
  obtain ⟨k, rfl⟩ : ∃ j, k = j + 3 := ⟨k - 3, by omega⟩
  unfold liveness_set_equal.f liveness_set_uint64_77.f rowN
  by_cases h : R = 0
  · subst h
    have : a = 0 := by omega
    have : b = 0 := by omega
    subst a b
    simp [liveness_set_uint64_77.l0]
  · rw [if_neg h, if_neg h]
    rw [if_pos (show (([(a : Int)].length : Nat) : Int) = ([(b : Int)].length : Nat) from rfl)]
    show (liveness_set_uint64_77.l0 (k + 2 + 1) _ _ 1 0).bind _ = _
    rw [liveness_set_uint64_77.l0, if_pos (by omega), if_pos (by omega), if_pos (by simp), if_pos (by simp)]
    show ((if (a : Int) = (b : Int) then _ else _) : Option Bool).bind _ = _
    by_cases e : a = b
    · subst e
      rw [if_pos rfl, show wrap64 (0 + 1) = 1 from w64_1]
      show (liveness_set_uint64_77.l0 (k + 1 + 1) _ _ 1 1).bind _ = _
      rw [liveness_set_uint64_77.l0, if_neg (by omega)]
      simp
    · rw [if_neg (by omega)]
      simp [e]
def listN (m : Nat) : List Int := ((List.range 40).filter fun r => m.testBit r).map fun r : Nat => (r : Int)
theorem list_l0 {R m : Nat} (hR : R ≤ 40) (hm : m < 2 ^ R) (h0 : R ≠ 0) : ∀ (d i k : Nat), i + d = 64 → d < k → ∀ acc : List Int, acc.length ≤ i →
    liveness_set_list.l0 k (rowN R m) acc 64 (i : Int) = some (acc ++ (((List.range 64).drop i).filter fun r => m.testBit r).map fun r : Nat => (r : Int))
  | 0, i, k, hi, hk, acc, _ => by
    obtain ⟨k, rfl⟩ : ∃ j, k = j + 1 := ⟨k - 1, by omega⟩
    rw [liveness_set_list.l0, if_neg (by omega)]
    rw [show i = 64 by omega, List.drop_eq_nil_of_le (by simp)]; simp
  | d + 1, i, k, hi, hk, acc, ha => by
    obtain ⟨k, rfl⟩ : ∃ j, k = j + 1 := ⟨k - 1, by omega⟩
    rw [liveness_set_list.l0, if_pos (by omega)]
    have hdrop : (List.range 64).drop i = i :: (List.range 64).drop (i + 1) := by
      rw [List.drop_eq_getElem_cons (by simp; omega)]; simp
    have hw : wrap64 ((i : Int) + 1) = ((i + 1 : Nat) : Int) := by unfold wrap64; omega
    have hhas : liveness_set_has.f (rowN R m) (i : Int) = some (m.testBit i) := by
      by_cases hi40 : i < 40
      · exact has_f hR hm h0 hi40
      · have hz : m.testBit i = false := Nat.testBit_lt_two_pow (Nat.lt_of_lt_of_le hm (Nat.pow_le_pow_right (by decide) (by omega)))
        rw [hz]
        unfold liveness_set_has.f rowN
        have e1 : wrap64 (Int.tdiv (i : Int) 64) = 0 := by rw [Int.tdiv_eq_zero_of_lt (by omega) (by omega), w64_0]
        have e2 : Int.tmod (i : Int) 64 = i := by rw [Int.tmod_eq_of_lt] <;> omega
        rw [e1, e2, if_neg h0, if_pos (by omega), if_pos (by simp), if_pos (by omega)]
        have h40 := pow_le40 hR
        have e3 : shr .u64 (m : Int) (i : Int) = 0 := by
          unfold shr
          rw [Int.toNat_natCast, Nat.min_eq_left (by simp [IntKind.bits]; omega)]
          have : m / 2 ^ i = 0 := Nat.div_eq_of_lt (Nat.lt_of_lt_of_le hm (Nat.pow_le_pow_right (by decide) (by omega)))
          exact_mod_cast this
        show some (Go.bits .and .u64 (shr .u64 (m : Int) (i : Int)) 1 == 1) = _
        rw [e3]
        have := u64_and (a := 0) (b := 1) (by decide) (by decide)
        rw [show Go.bits .and .u64 0 1 = ((0 &&& 1 : Nat) : Int) from this]
        rfl
    rw [hhas, hdrop]
    show (if m.testBit i = true then _ else _) = _
    by_cases hb : m.testBit i = true
    · rw [if_pos hb, if_pos (by omega), hw, list_l0 hR hm h0 d (i + 1) k (by omega) (by omega) (acc ++ [(i : Int)]) (by simp; omega)]
      rw [List.filter_cons, if_pos hb]; simp
    · rw [if_neg hb, hw, list_l0 hR hm h0 d (i + 1) k (by omega) (by omega) acc (by omega)]
      rw [List.filter_cons, if_neg hb]
theorem list_f {R m k : Nat} (hR : R ≤ 40) (hm : m < 2 ^ R) (hk : 70 ≤ k) : liveness_set_list.f k (rowN R m) = some (listN m) := by
  unfold liveness_set_list.f
  by_cases h0 : R = 0
  · subst h0
    have : m = 0 := by omega
    subst this
    obtain ⟨k, rfl⟩ : ∃ j, k = j + 1 := ⟨k - 1, by omega⟩
    show liveness_set_list.l0 (k + 1) [] [] (wrap64 0) 0 = _
    rw [w64_0, liveness_set_list.l0, if_neg (by omega)]
    simp [listN]
  · have e : wrap64 (64 * (((rowN R m).length : Nat) : Int)) = 64 := by
      unfold rowN; rw [if_neg h0]
      show wrap64 (64 * 1) = 64
      unfold wrap64; omega
    rw [e]
    have := list_l0 hR hm h0 64 0 k (by omega) (by omega) [] (by simp)
    rw [show ((0 : Nat) : Int) = 0 from rfl] at this
    rw [this]
    unfold listN
    have hsplit : List.range 64 = List.range 40 ++ (List.range 64).drop 40 := by decide
    rw [List.drop_zero, hsplit, List.filter_append]
    have hnil : ((List.range 64).drop 40).filter (fun r => m.testBit r) = [] := by
      rw [List.filter_eq_nil_iff]
      intro r hr
      have h40 : 40 ≤ r := by
        have : r ∈ (List.range 64).drop 40 := hr
        obtain ⟨j, hj, he⟩ := List.mem_drop_iff_getElem.1 this
        rw [List.getElem_range] at he; omega
      rw [Nat.testBit_lt_two_pow (Nat.lt_of_lt_of_le hm (Nat.pow_le_pow_right (by decide) (by omega)))]; simp
    rw [hnil]; simp
end Go.Proofs.Ythgodpmahdnnjaa
end
section
namespace Go.Proofs.Ythgodpmahdnnjaa
open Go.RowKit Go.Proofs.YthgodpmahdnnjaaW.PrintWords Go.Proofs.YthgodpmahdnnjaaW.PrintMore Go.Proofs.Ythgodpmahdnnjaa.H
theorem k_add {n k : Nat} (h : n ≤ k) : ∃ j, k = j + n := ⟨k - n, by omega⟩
def usesL (i : S62) : List Int := (if (shp i.f0).2.1 then [i.f2] else []) ++ (if (shp i.f0).2.2.1 then [i.f3] else [])
def succL (b : S43) : List Int := if b.f1 = 1 ∨ b.f1 = 2 ∧ b.f3 = b.f4 then [b.f3] else if b.f1 = 2 then [b.f3, b.f4] else []
theorem succL_len (b : S43) : (succL b).length ≤ 2 := by
  unfold succL
  split
  · simp
  · split <;> simp
def refI (i : S62) : S80 := ⟨i.f0, i.f1, i.f2, i.f3, i.f4, i.f5⟩
def refB (b : S43) : S79 := ⟨b.f0.map refI, b.f1, b.f2, b.f3, b.f4⟩
theorem Uses_f (i : S62) : ir_Uses.f i.f0 i.f1 i.f2 i.f3 i.f4 i.f5 = some (usesL i) := by
  unfold ir_Uses.f ir_shapeOf.f usesL
  simp only [Option.bind_some]
  cases h1 : (shp i.f0).2.1 <;> cases h2 : (shp i.f0).2.2.1 <;> simp
theorem Defines_f (i : S62) : ir_Defines.f i.f0 i.f1 i.f2 i.f3 i.f4 i.f5 = some (if (shp i.f0).1 then (i.f1, true) else (0, false)) := by
  unfold ir_Defines.f ir_shapeOf.f
  simp only [Option.bind_some]
  cases h1 : (shp i.f0).1 <;> simp
theorem Succ_f (b : S43) (k : Nat) (hk : 1 ≤ k) : ir_Succ.f k b.f0 b.f1 b.f2 b.f3 b.f4 = some (succL b) := by
  obtain ⟨k, rfl⟩ := k_add hk
  unfold ir_Succ.f succL
  simp only [ir_Succ.j0]
  by_cases h1 : b.f1 = 1
  · simp [h1]
  · by_cases h2 : b.f1 = 2
    · by_cases h3 : b.f3 = b.f4 <;> simp [h2, h3]
    · simp [h1, h2]
theorem refUses_f (i : S62) (h1 : 1 ≤ i.f0) (h2 : i.f0 ≤ 16) (k : Nat) (hk : 20 ≤ k) : ontimeref17_Uses.f k i.f0 i.f1 i.f2 i.f3 i.f4 i.f5 = some (usesL i) := by
  obtain ⟨k, rfl⟩ := k_add hk
  obtain ⟨o, d, x, y, m, s⟩ := i
  simp only at h1 h2 ⊢
  have hc : o = 1 ∨ o = 2 ∨ o = 3 ∨ o = 4 ∨ o = 5 ∨ o = 6 ∨ o = 7 ∨ o = 8 ∨ o = 9 ∨ o = 10 ∨ o = 11 ∨ o = 12 ∨ o = 13 ∨ o = 14 ∨ o = 15 ∨ o = 16 := by omega
  clear h1 h2 hk
  rcases hc with rfl | rfl | rfl | rfl | rfl | rfl | rfl | rfl | rfl | rfl | rfl | rfl | rfl | rfl | rfl | rfl <;> (show _ = _) <;> kernel_rfl
theorem refDefines_f (i : S62) (h1 : 1 ≤ i.f0) (h2 : i.f0 ≤ 16) (k : Nat) (hk : 20 ≤ k) : ontimeref17_Defines.f k i.f0 i.f1 i.f2 i.f3 i.f4 i.f5 = some (if (shp i.f0).1 then (i.f1, true) else (0, false)) := by
  obtain ⟨k, rfl⟩ := k_add hk
  obtain ⟨o, d, x, y, m, s⟩ := i
  simp only at h1 h2 ⊢
  have hc : o = 1 ∨ o = 2 ∨ o = 3 ∨ o = 4 ∨ o = 5 ∨ o = 6 ∨ o = 7 ∨ o = 8 ∨ o = 9 ∨ o = 10 ∨ o = 11 ∨ o = 12 ∨ o = 13 ∨ o = 14 ∨ o = 15 ∨ o = 16 := by omega
  clear h1 h2 hk
  rcases hc with rfl | rfl | rfl | rfl | rfl | rfl | rfl | rfl | rfl | rfl | rfl | rfl | rfl | rfl | rfl | rfl <;> (show _ = _) <;> kernel_rfl
theorem refSucc_f (b : S43) (k : Nat) (hk : 1 ≤ k) : ontimeref17_Succ.f k (refB b).f0 (refB b).f1 (refB b).f2 (refB b).f3 (refB b).f4 = some (succL b) := by
  obtain ⟨k, rfl⟩ := k_add hk
  unfold ontimeref17_Succ.f succL refB
  simp only [ontimeref17_Succ.j0]
  by_cases h1 : b.f1 = 1
  · simp [h1]
  · by_cases h2 : b.f1 = 2
    · by_cases h3 : b.f3 = b.f4 <;> simp [h2, h3]
    · simp [h1, h2]
structure OkI (R : Nat) (i : S62) : Prop where
  lo : 1 ≤ i.f0
  hi : i.f0 ≤ 16
  d : (shp i.f0).1 = true → 0 ≤ i.f1 ∧ i.f1 < R
  u : ∀ r ∈ usesL i, 0 ≤ r ∧ r < R
structure OkB (R n : Nat) (b : S43) : Prop where
  code : ∀ i ∈ b.f0, OkI R i
  lo : 1 ≤ b.f1
  hi : b.f1 ≤ 3
  x : b.f1 = 2 → 0 ≤ b.f2 ∧ b.f2 < R
  succ : ∀ t ∈ succL b, 0 ≤ t ∧ t < n
structure OkF (R : Nat) (B : List S43) : Prop where
  ne : B ≠ []
  b : ∀ b ∈ B, OkB R B.length b
def addL (m : Nat) (l : List Int) : Nat := l.foldl (fun m r => m ||| 2 ^ r.toNat) m
def befN (i : S62) (m : Nat) : Nat := addL (if (shp i.f0).1 then clr m i.f1.toNat else m) (usesL i)
def endN (b : S43) (m : Nat) : Nat := if b.f1 = 2 then m ||| 2 ^ b.f2.toNat else m
def trN (b : S43) (m : Nat) : Nat := b.f0.foldr befN (endN b m)
theorem addL_lt {R : Nat} : ∀ (l : List Int) (m : Nat), m < 2 ^ R → (∀ r ∈ l, 0 ≤ r ∧ r < R) → addL m l < 2 ^ R
  | [], m, h, _ => h
  | r :: l, m, h, hl => by
    have := hl r (by simp)
    exact addL_lt l _ (add_lt h (by omega)) (fun q hq => hl q (by simp [hq]))
theorem befN_lt {R m : Nat} {i : S62} (hi : OkI R i) (hm : m < 2 ^ R) : befN i m < 2 ^ R := by
  unfold befN
  refine addL_lt _ _ ?_ hi.u
  split
  · rename_i h; have := hi.d h; exact clr_lt hm (by omega)
  · exact hm
theorem endN_lt {R n m : Nat} {b : S43} (hb : OkB R n b) (hm : m < 2 ^ R) : endN b m < 2 ^ R := by
  unfold endN
  split
  · rename_i h; have := hb.x h; exact add_lt hm (by omega)
  · exact hm
theorem foldr_lt {R m : Nat} : ∀ (l : List S62), (∀ i ∈ l, OkI R i) → m < 2 ^ R → l.foldr befN m < 2 ^ R
  | [], _, hm => hm
  | i :: l, h, hm => befN_lt (h i (by simp)) (foldr_lt l (fun j hj => h j (by simp [hj])) hm)
theorem trN_lt {R n m : Nat} {b : S43} (hb : OkB R n b) (hm : m < 2 ^ R) : trN b m < 2 ^ R := foldr_lt _ hb.code (endN_lt hb hm)
theorem addL_bit : ∀ (l : List Int) (m r : Nat), (∀ q ∈ l, 0 ≤ q) → (addL m l).testBit r = (m.testBit r || l.contains (r : Int))
  | [], m, r, _ => by simp [addL]
  | q :: l, m, r, h => by
    have hq := h q (by simp)
    show (addL (m ||| 2 ^ q.toNat) l).testBit r = _
    rw [addL_bit l _ r (fun p hp => h p (by simp [hp])), bit_add, List.contains_cons, Bool.or_assoc]
    congr 2
    by_cases e : q.toNat = r
    · have : (r : Int) = q := by omega
      simp [this]; exact e
    · have : ¬ (r : Int) = q := by omega
      simp [e, this]
def usesB (i : S62) (r : Nat) : Bool := (usesL i).contains (r : Int)
def defB (i : S62) (r : Nat) : Bool := (shp i.f0).1 && (i.f1 == (r : Int))
theorem befN_bit {R : Nat} {i : S62} (hi : OkI R i) (m r : Nat) : (befN i m).testBit r = (usesB i r || (m.testBit r && !defB i r)) := by
  unfold befN
  rw [addL_bit _ _ _ (fun q hq => (hi.u q hq).1), Bool.or_comm]
  unfold usesB defB
  congr 1
  cases h : (shp i.f0).1
  · simp
  · have := hi.d h
    simp only [if_true, Bool.true_and]
    rw [bit_clr]
    congr 2
    by_cases e : i.f1.toNat = r
    · have : i.f1 = (r : Int) := by omega
      simp [e, this]
    · have : ¬ i.f1 = (r : Int) := by omega
      simp [e, this]
theorem endN_bit {R n : Nat} {b : S43} (hb : OkB R n b) (m r : Nat) : (endN b m).testBit r = (m.testBit r || (b.f1 == 2 && (b.f2 == (r : Int)))) := by
  unfold endN
  by_cases h : b.f1 = 2
  · have := hb.x h
    rw [if_pos h, bit_add]
    congr 1
    by_cases e : b.f2.toNat = r
    · have : b.f2 = (r : Int) := by omega
      simp [h, e, this]
    · have : ¬ b.f2 = (r : Int) := by omega
      simp [h, e, this]
  · rw [if_neg h]; simp [h]
def goes (b : S43) (r : Nat) : List S62 → Bool × Bool
  | [] => if b.f1 == 2 && (b.f2 == (r : Int)) then (true, false) else (false, true)
  | i :: l => if usesB i r then (true, false) else if defB i r then (false, false) else goes b r l
theorem goes_bit {R n : Nat} {b : S43} (hb : OkB R n b) (m r : Nat) : ∀ l : List S62, (∀ i ∈ l, OkI R i) → (l.foldr befN (endN b m)).testBit r = ((goes b r l).1 || ((goes b r l).2 && m.testBit r))
  | [], _ => by
    show (endN b m).testBit r = _
    rw [endN_bit hb]
    unfold goes
    cases (b.f1 == 2 && (b.f2 == (r : Int))) <;> simp
  | i :: l, h => by
    show (befN i (l.foldr befN (endN b m))).testBit r = _
    rw [befN_bit (h i (by simp)), goes_bit hb m r l (fun j hj => h j (by simp [hj]))]
    have e : goes b r (i :: l) = if usesB i r then (true, false) else if defB i r then (false, false) else goes b r l := rfl
    rw [e]
    cases usesB i r
    · cases defB i r <;> simp
    · simp
inductive LO (B : List S43) (r : Nat) : Nat → Prop
  | use {b t : Nat} (h : (t : Int) ∈ succL (B.getD b z43)) (hu : (goes (B.getD t z43) r (B.getD t z43).f0).1 = true) : LO B r b
  | thru {b t : Nat} (h : (t : Int) ∈ succL (B.getD b z43)) (he : (goes (B.getD t z43) r (B.getD t z43).f0).2 = true) (hl : LO B r t) : LO B r b
def LI (B : List S43) (r b : Nat) (l : List S62) : Prop := (goes (B.getD b z43) r l).1 = true ∨ (goes (B.getD b z43) r l).2 = true ∧ LO B r b
end Go.Proofs.Ythgodpmahdnnjaa
end
section
namespace Go.Proofs.Ythgodpmahdnnjaa
open Go.RowKit Go.Proofs.YthgodpmahdnnjaaW.PrintWords Go.Proofs.YthgodpmahdnnjaaW.PrintMore Go.Proofs.Ythgodpmahdnnjaa.H
theorem memB {B : List S43} {b : Nat} (hb : b < B.length) : B.getD b z43 ∈ B := by
  rw [List.getD_eq_getElem?_getD, List.getElem?_eq_getElem hb]; simp
theorem memI {l : List S62} {i : Nat} (hi : i < l.length) : l.getD i z62 ∈ l := by
  rw [List.getD_eq_getElem?_getD, List.getElem?_eq_getElem hi]; simp
theorem drop_getD {l : List S62} {i : Nat} (hi : i < l.length) : l.drop i = l.getD i z62 :: l.drop (i + 1) := by
  rw [List.drop_eq_getElem_cons hi, List.getD_eq_getElem?_getD, List.getElem?_eq_getElem hi]; rfl
theorem wr64 {i : Nat} (h : i < 1000000000) : wrap64 ((i : Int) + 1) = ((i + 1 : Nat) : Int) := by unfold wrap64; omega
theorem usesL_len (i : S62) : (usesL i).length ≤ 2 := by
  unfold usesL; cases (shp i.f0).2.1 <;> cases (shp i.f0).2.2.1 <;> simp
section
variable {nm : ByteArray} {RI : Int} {ar : List S107} {B : List S43} {R : Nat}
end
end Go.Proofs.Ythgodpmahdnnjaa
end
section
namespace Go.Proofs.Ythgodpmahdnnjaa
open Go.RowKit Go.Proofs.YthgodpmahdnnjaaW.PrintWords
def rowF (f : Nat → Value) (n : Nat) : Array Value := ((List.range n).map f).toArray
theorem rowF_size (f : Nat → Value) (n : Nat) : (rowF f n).size = n := by simp [rowF]
theorem rowF_get {f : Nat → Value} {n i : Nat} (h : i < n) : (rowF f n)[i]? = some (f i) := by simp [rowF, h]
theorem rowF_set {f : Nat → Value} {n k : Nat} (v : Value) : (rowF f n).setIfInBounds k v = rowF (fun i => if i = k then v else f i) n := by
  apply Array.ext_getElem?
  intro i
  by_cases hi : i < n
  · rw [Array.getElem?_setIfInBounds, rowF_get hi, rowF_get hi, rowF_size]
    by_cases e : k = i
    · subst e; simp [hi]
    · rw [if_neg e, if_neg (Ne.symm e)]
  · rw [Array.getElem?_eq_none (by simp [rowF]; omega), Array.getElem?_eq_none (by simp [rowF]; omega)]
theorem rowF_made (v : Value) (n : Nat) : madeCells #[v] n = rowF (fun _ => v) n := by
  apply Array.ext_getElem?
  intro i
  by_cases h : i < n
  · rw [rowF_get h]; simp [madeCells, h, Nat.mod_one]
  · rw [Array.getElem?_eq_none (by simp [madeCells]; omega), Array.getElem?_eq_none (by simp [rowF]; omega)]
theorem heap_set_row {w : World} {B k : Nat} {f : Nat → Value} {n t : Nat} (v : Value) (h : w.heap[B]? = some (.cells (rowF f n) t (0, 0))) :
    (w.setCell ⟨B, k, none⟩ v).heap[B]? = some (.cells (rowF (fun i => if i = k then v else f i) n) t (0, 0)) := by
  show (w.heap.modify _ _)[B]? = _
  rw [Array.getElem?_modify, if_pos rfl, h]
  simp [rowF_set]
theorem cell_of_row {w : World} {B i : Nat} {cs : Array Value} {t : TypeId} {v : Value} (h : w.heap[B]? = some (.cells cs t (0, 0))) (hv : cs[i]? = some v) : w.cell? ⟨B, i, none⟩ = some v ∧ w.frozen? ⟨B, i, none⟩ = false := by
  constructor
  · simp [World.cell?, h, hv]
  · simp [World.frozen?, h]
theorem alloc_size1 (w : World) (ob : Obj) : (w.alloc ob).heap.size = w.heap.size + 1 := by simp
theorem heap_lt {w : World} {B : Nat} {o : Obj} (h : w.heap[B]? = some o) : B < w.heap.size := (Array.getElem?_eq_some_iff.1 h).1
theorem heap_below {w w1 : World} {B : Nat} {o : Obj} (h : w.heap[B]? = some o) (hb : Below w.heap.size w w1) : w1.heap[B]? = some o := (hb.block B (heap_lt h)).trans h
theorem own_base {w : World} {base n size : Nat} {e : TypeId} {v : Value} {xs : List Value} (h : w.ownsRow base e size v n xs) : ∀ k, v.ownBlock = some k → base ≤ k := by
  intro k hk
  rcases h.2 with ⟨h1, _⟩ | ⟨g, cap, cur, h1, h2, _⟩
  · subst h1; cases hk
  · subst h1; simp [Value.ownBlock] at hk; omega
end Go.Proofs.Ythgodpmahdnnjaa
end
section
namespace Go.Proofs.Ythgodpmahdnnjaa
open Go.RowKit Go.Proofs.YthgodpmahdnnjaaW.PrintWords Go.Proofs.YthgodpmahdnnjaaW.PrintMore Go.Proofs.Ythgodpmahdnnjaa.H
set_option maxHeartbeats 4000000 in
set_option maxRecDepth 100000 in
theorem cloneI_calls (A : Option Addr) (c : Nat) (l : List Int) (w : World) (hC : Kd.C (Kd.int .i64) w A l.length l) (hc : l.length ≤ c) (hl : l.length ≤ 1000) :
    Calls Try.prog 74 #[.slice A l.length c] w fun e w' => ∃ v, e = .returned v ∧ Kd.R (Kd.int .i64) 3 w' w.heap.size (fun _ => True) v l ∧ Below w.heap.size w w' := by
  have hinfo : (Try.prog.info? 3).map (fun i => (i.zero, i.size, i.bytes)) = some (some (.int .i64 0), 1, 8) := by kernel_rfl
  have HI := Lib.hid hinfo
  have HC := Lib.hid hC
  have hu := Try.underlying39
  clear hinfo
  cases A with
  | none =>
    have hn : l = [] := by
      cases l with
      | nil => rfl
      | cons x l => obtain ⟨ad, e, _⟩ := hC.2.2 (by simp); cases e
    subst hn
    clear hC
    have he := fun W => Lib.run_eql_slice_nil_nil (P := Try.prog) W 0 c hu
    go_enter Try.func74, Try.ntmps74
    go_wp2
    go_ret
    exact ⟨_, rfl, Kd.R_of_own (World.ownsRow_nil w w.heap.size 3 1) (fun _ _ => trivial), Below.refl _ _⟩
  | some ad =>
    clear hC
    have he := fun W => Lib.run_eql_slice_some_nil (P := Try.prog) W ad l.length c hu
    go_enter Try.func74, Try.ntmps74
    have hR0 : Kd.R (Kd.int .i64) 3 (w.alloc (.cells #[] 3)) w.heap.size (fun _ => True) (.slice (some ⟨w.heap.size, 0, none⟩) 0 0) ([] : List Int) :=
      Kd.R_of_own ⟨rfl, .inr ⟨w.heap.size, 0, #[], rfl, Nat.le_refl _, blk_new w _, Nat.le_refl _, by unfold maxLen; omega, rfl, rfl⟩⟩ (fun _ _ => trivial)
    have HR0 := Lib.hid hR0
    have HC1 := Lib.hid (Kd.C_below HC.out (below_alloc (Below.refl _ w) (.cells #[] 3)))
    clear hR0
    go_wp2_with (first | (at_builtin; refine Kd.R_append_row (w0 := w) (.int .i64) (0 : Int) w.heap.size rfl _ _ 39 3 (.int .i64 0) 8 rfl hu HI.out rfl (by omega) (.slice (some ⟨w.heap.size, 0, none⟩) 0 0) ([] : List Int) l (some ad) l.length c (fun _ => True) rfl rfl (fun _ _ => trivial) HR0.out HC1.out (below_alloc (Below.refl _ w) _) (by simp) (by simp; omega) ?_; intro v1 w1 hR1 hb1 _ _) | fail)
    go_ret
    rw [List.nil_append] at hR1
    exact ⟨_, rfl, hR1, hb1⟩
theorem at_ints {w : World} {A : Option Addr} {n : Nat} {xs : List Int} (h : Kd.C (Kd.int .i64) w A n xs) (i : Nat) (h1 : i < n) :
    ∃ ad, A = some ad ∧ w.cell? (ad.add i) = some (.int .i64 (xs.getD i 0)) := by
  obtain ⟨ad, c, e, _, hK, hc0⟩ := Kd.C_get h (0 : Int) i (by omega) (by omega)
  have hc : ∀ j u, c[j]? = some u → w.cell? (ad.add (i * 1 + j)) = some u := hc0
  obtain rfl : c = [.int .i64 (xs.getD i 0)] := hK
  exact ⟨ad, e, by have hq := hc 0 _ rfl; rwa [Nat.mul_one, Nat.add_zero] at hq⟩
def outOf (R : Int) (r : Int) : Bool := decide (r < 0) || decide (R ≤ r)
set_option maxHeartbeats 4000000 in
set_option maxRecDepth 100000 in
theorem instr1_calls (g : Nat) (R x : Int) (w : World) (hg : w.cell? ⟨g, 0, none⟩ = some (.int .i64 R)) :
    Calls Try.prog 76 #[.int .i64 x, .pointer (some ⟨g, 0, none⟩)] w fun e w' => e = .returned (.bool (outOf R x)) ∧ Below w.heap.size w w' := by
  unfold outOf
  by_cases h : x < 0
  · have b1 : decide (x < 0) = true := decide_eq_true h
    rw [b1]
    go_enter Try.func76, Try.ntmps76
    go_wp2
    go_ret
    exact ⟨rfl, Below.refl _ _⟩
  · have b1 : decide (x < 0) = false := decide_eq_false h
    rw [b1]
    go_enter Try.func76, Try.ntmps76
    go_wp2
    go_ret
    exact ⟨by simp, Below.refl _ _⟩
set_option maxHeartbeats 4000000 in
set_option maxRecDepth 100000 in
theorem index_calls (A : Option Addr) (c : Nat) (l : List Int) (g : Nat) (R : Int) (w : World) (hC : Kd.C (Kd.int .i64) w A l.length l) (hl : l.length ≤ 1000) (hg : w.cell? ⟨g, 0, none⟩ = some (.int .i64 R)) :
    Calls Try.prog 89 #[.slice A l.length c, .func (.func 76) #[] #[.pointer (some ⟨g, 0, none⟩)]] w fun e w' => ∃ k : Int, e = .returned (.int .i64 k) ∧ decide (0 ≤ k) = l.any (outOf R) ∧ Below w.heap.size w w' := by
  have HC := Lib.hid hC
  have HG := Lib.hid hg
  clear hC hg
  go_enter Try.func89, Try.ntmps89
  go_wp2
  go_loopw [8] (fun v wr => ∃ i : Nat, i ≤ l.length ∧ v = .int .i64 i ∧ (l.take i).any (outOf R) = false ∧ Below w.heap.size w wr) (fun v _ => l.length - (intOf v).toNat)
  case atStart => exact ⟨0, Nat.zero_le _, rfl, by simp, Below.refl _ _⟩
  case round =>
    obtain ⟨i, hi, rfl, hno, hb⟩ := hrel
    by_cases hlt : i < l.length
    · obtain ⟨ad, rfl, hq⟩ := at_ints HC.out i hlt
      have hq1 := pw_cell_below hb hq
      have hg1 := pw_cell_below hb HG.out
      have hstep : (l.take (i + 1)).any (outOf R) = outOf R (l.getD i 0) := by
        rw [List.take_succ_eq_append_getElem hlt, List.any_append, hno, List.getD_eq_getElem?_getD, List.getElem?_eq_getElem hlt]; simp
      have hin : outOf R (l.getD i 0) = true → l.any (outOf R) = true := fun h => by
        rw [List.any_eq_true]
        exact ⟨l.getD i 0, by rw [List.getD_eq_getElem?_getD, List.getElem?_eq_getElem hlt]; simp, h⟩
      obtain ⟨x, hx⟩ : ∃ x, x = l.getD i 0 := ⟨_, rfl⟩
      rw [← hx] at hq1 hstep hin
      obtain ⟨o, ho⟩ : ∃ o, o = outOf R x := ⟨_, rfl⟩
      rw [← ho] at hstep hin
      have HO := Lib.hid ho
      have HS := Lib.hid hstep
      have HIN := Lib.hid hin
      have HB := Lib.hid hb
      clear hx ho hstep hin hq hb hno
      cases o with
      | true =>
        go_wp2_with (first | (go_at_call 76; refine (instr1_calls g R x _ hg1).mono ?_; rw [← HO.out]; rintro e w2 ⟨rfl, hb2⟩) | fail)
        go_ret
        exact ⟨i, rfl, by rw [HIN.out trivial]; simp, HB.out.trans (hb2.mono HB.out.size)⟩
      | false =>
        go_wp2_with (first | (go_at_call 76; refine (instr1_calls g R x _ hg1).mono ?_; rw [← HO.out]; rintro e w2 ⟨rfl, hb2⟩) | fail)
        go_roundw
        case rel => exact ⟨i + 1, by omega, by go_num, HS.out, HB.out.trans (hb2.mono HB.out.size)⟩
        case measure => simp [intOf]; omega
    · have e : i = l.length := by omega
      rw [e, List.take_length] at hno
      have HN := Lib.hid hno
      have HB := Lib.hid hb
      clear hno hb
      go_wp2
      go_ret
      exact ⟨-1, rfl, by rw [HN.out]; rfl, HB.out⟩
set_option maxHeartbeats 4000000 in
set_option maxRecDepth 100000 in
theorem contains_calls (A : Option Addr) (c : Nat) (l : List Int) (g : Nat) (R : Int) (w : World) (hC : Kd.C (Kd.int .i64) w A l.length l) (hl : l.length ≤ 1000) (hg : w.cell? ⟨g, 0, none⟩ = some (.int .i64 R)) :
    Calls Try.prog 75 #[.slice A l.length c, .func (.func 76) #[] #[.pointer (some ⟨g, 0, none⟩)]] w fun e w' => e = .returned (.bool (l.any (outOf R))) ∧ Below w.heap.size w w' := by
  go_enter Try.func75, Try.ntmps75
  go_wp2_with (first | (go_at_call 89; refine (index_calls A c l g R _ hC hl hg).mono ?_; rintro e w2 ⟨k, rfl, hk, hb⟩) | fail)
  go_ret
  exact ⟨by rw [← hk]; rfl, hb⟩
theorem cells6 {w : World} {g : Nat} {t : TypeId} {a b c d e f : Value} (h : w.heap[g]? = some (.cells #[a, b, c, d, e, f] t (0, 0))) :
    w.cell? ⟨g, 0, none⟩ = some a ∧ w.cell? ⟨g, 1, none⟩ = some b ∧ w.cell? ⟨g, 2, none⟩ = some c ∧ w.cell? ⟨g, 3, none⟩ = some d ∧ w.cell? ⟨g, 4, none⟩ = some e ∧ w.cell? ⟨g, 5, none⟩ = some f :=
  ⟨(blk_cell h 0).trans rfl, (blk_cell h 1).trans rfl, (blk_cell h 2).trans rfl, (blk_cell h 3).trans rfl, (blk_cell h 4).trans rfl, (blk_cell h 5).trans rfl⟩
def insL (i : S62) : List Int := usesL i ++ if (shp i.f0).1 then [i.f1] else []
def insB (R : Int) (i : S62) : Bool := if i.f0 < 1 then false else if 16 < i.f0 then false else !(insL i).any (outOf R)
set_option maxHeartbeats 4000000 in
set_option maxRecDepth 100000 in
theorem instruction_calls (i : S62) (R : Int) (w : World) :
    Calls Try.prog 62 #[.agg #[.int .u8 i.f0, .int .i64 i.f1, .int .i64 i.f2, .int .i64 i.f3, .int .i64 i.f4, .string i.f5], .int .i64 R] w fun e w' => e = .returned (.bool (insB R i)) ∧ Below w.heap.size w w' := by
  have hmf : ∀ (fn : Fn) (first cap : Array Value) (w : World), (Instr.makeFunc fn first cap).run Try.prog w = .ok (.func fn first cap) w := fun _ _ _ _ => rfl
  unfold insB
  by_cases h1 : i.f0 < 1
  · rw [if_pos h1]
    have b1 : decide (i.f0 < 1) = true := decide_eq_true h1
    clear h1
    go_enter Try.func62, Try.ntmps62
    go_wp2_with (first
    | ((with_reducible refine gate_dst (N := 2) rfl ?_); refine box_event ?hg (N := 2) ?hd (cs := #[.int .u8 i.f0, .int .i64 i.f1, .int .i64 i.f2, .int .i64 i.f3, .int .i64 i.f4, .string i.f5]) (t := 62) ?hr ?_; (case hd => rfl); (case hg => rfl); (case hr => first | (go_simp; done) | (go_simp; rfl)); intro g hg w3 hbox hbw; have BK := Lib.hid hbox; have HBW := Lib.hid hbw; have HG := Lib.hid hg; clear hbox hbw hg)
    | ((with_reducible refine gate_dst (N := 3) rfl ?_); refine box_event ?hg (N := 3) ?hd (cs := #[.int .i64 R]) (t := 3) ?hr ?_; (case hd => rfl); (case hg => rfl); (case hr => first | (go_simp; done) | (go_simp; rfl)); intro g2 hg2 w4 hbox2 hbw2; have BK2 := Lib.hid hbox2; obtain ⟨z0, z1, z2, z3, z4, z5⟩ := cells6 (heap_below BK.out hbw2); have HBK := Lib.hid (heap_below BK.out hbw2); have HBW2 := Lib.hid hbw2; have HG2 := Lib.hid hg2; clear hbox2 hbw2 hg2)
    | fail)
    go_ret
    exact ⟨rfl, HBW.out.trans (HBW2.out.mono HBW.out.size)⟩
  · rw [if_neg h1]
    have b1 : decide (i.f0 < 1) = false := decide_eq_false h1
    clear h1
    by_cases h2 : 16 < i.f0
    · rw [if_pos h2]
      have b2 : decide (16 < i.f0) = true := decide_eq_true h2
      clear h2
      go_enter Try.func62, Try.ntmps62
      go_wp2_with (first
    | ((with_reducible refine gate_dst (N := 2) rfl ?_); refine box_event ?hg (N := 2) ?hd (cs := #[.int .u8 i.f0, .int .i64 i.f1, .int .i64 i.f2, .int .i64 i.f3, .int .i64 i.f4, .string i.f5]) (t := 62) ?hr ?_; (case hd => rfl); (case hg => rfl); (case hr => first | (go_simp; done) | (go_simp; rfl)); intro g hg w3 hbox hbw; have BK := Lib.hid hbox; have HBW := Lib.hid hbw; have HG := Lib.hid hg; clear hbox hbw hg)
    | ((with_reducible refine gate_dst (N := 3) rfl ?_); refine box_event ?hg (N := 3) ?hd (cs := #[.int .i64 R]) (t := 3) ?hr ?_; (case hd => rfl); (case hg => rfl); (case hr => first | (go_simp; done) | (go_simp; rfl)); intro g2 hg2 w4 hbox2 hbw2; have BK2 := Lib.hid hbox2; obtain ⟨z0, z1, z2, z3, z4, z5⟩ := cells6 (heap_below BK.out hbw2); have HBK := Lib.hid (heap_below BK.out hbw2); have HBW2 := Lib.hid hbw2; have HG2 := Lib.hid hg2; clear hbox2 hbw2 hg2)
    | fail)
      go_ret
      exact ⟨rfl, HBW.out.trans (HBW2.out.mono HBW.out.size)⟩
    · rw [if_neg h2]
      have b2 : decide (16 < i.f0) = false := decide_eq_false h2
      clear h2
      have hU := Lib.hid (Uses_f i)
      have hD := Lib.hid (Defines_f i)
      have hUL := usesL_len i
      have hinfo : (Try.prog.info? 3).map (fun i => (i.zero, i.size, i.bytes)) = some (some (.int .i64 0), 1, 8) := by kernel_rfl
      have HI := Lib.hid hinfo
      clear hinfo
      obtain ⟨d, hd⟩ : ∃ d, d = (shp i.f0).1 := ⟨_, rfl⟩
      unfold insL
      rw [← hd] at hD ⊢
      have HDD := Lib.hid hd
      clear hd
      cases d with
      | true =>
        go_enter Try.func62, Try.ntmps62
        go_upto_region 7 with (first
    | ((with_reducible refine gate_dst (N := 2) rfl ?_); refine box_event ?hg (N := 2) ?hd (cs := #[.int .u8 i.f0, .int .i64 i.f1, .int .i64 i.f2, .int .i64 i.f3, .int .i64 i.f4, .string i.f5]) (t := 62) ?hr ?_; (case hd => rfl); (case hg => rfl); (case hr => first | (go_simp; done) | (go_simp; rfl)); intro g hg w3 hbox hbw; have BK := Lib.hid hbox; have HBW := Lib.hid hbw; have HG := Lib.hid hg; clear hbox hbw hg)
    | ((with_reducible refine gate_dst (N := 3) rfl ?_); refine box_event ?hg (N := 3) ?hd (cs := #[.int .i64 R]) (t := 3) ?hr ?_; (case hd => rfl); (case hg => rfl); (case hr => first | (go_simp; done) | (go_simp; rfl)); intro g2 hg2 w4 hbox2 hbw2; have BK2 := Lib.hid hbox2; obtain ⟨z0, z1, z2, z3, z4, z5⟩ := cells6 (heap_below BK.out hbw2); have HBK := Lib.hid (heap_below BK.out hbw2); have HBW2 := Lib.hid hbw2; have HG2 := Lib.hid hg2; clear hbox2 hbw2 hg2)
    | (go_at_call 27; refine (ir_Uses.calls _ _ _ _ _ _ _ _ hU.out).mono ?_; rintro e w5 ⟨v5, rfl, hR5, hb5⟩; obtain ⟨A5, c5, rfl, hl5, hC5⟩ := Kd.R_reads hR5; obtain ⟨y0, y1, y2, y3, y4, y5⟩ := cells6 (heap_below HBK.out hb5); have HB5 := Lib.hid hb5; have HC5 := Lib.hid hC5; clear hb5 hC5 hR5)
    | (go_at_call 26; refine (ir_Defines.calls _ _ _ _ _ _ i.f1 true _ hD.out).mono ?_; rintro e w6 ⟨rfl, hb6⟩; have HB6 := Lib.hid hb6; clear hb6)
    | (go_at_call 74; refine (cloneI_calls _ _ (usesL i) _ (Kd.C_below HC5.out HB6.out) hl5 (by omega)).mono ?_; rintro e w7 ⟨v7, rfl, hR7, hb7⟩; have HR7 := Lib.hid hR7; have HB7 := Lib.hid hb7; clear hR7 hb7)
    | (at_builtin; refine print_append_num (w0 := w6) w6.heap.size rfl _ _ 39 3 .i64 8 rfl Try.underlying39 HI.out (by omega) v7 (usesL i) i.f1 rfl rfl (Kd.own_of_R HR7.out) HB7.out HB7.out.size (by omega) ?_; intro v8 w8 hown8 hb8 hg8 hat8)
    | fail)
        have hR8 : Kd.R (Kd.int .i64) 3 w8 w6.heap.size (fun _ => True) v8 (usesL i ++ [i.f1]) := Kd.R_of_own hown8 (fun _ _ => trivial)
        obtain ⟨A8, c8, hv8, hl8, hC8⟩ := Kd.R_reads hR8
        clear hown8 hR8
        subst hv8
        have hall : Below w4.heap.size w4 w8 := HB5.out.trans ((HB6.out.trans (hb8.mono HB6.out.size)).mono HB5.out.size)
        have hgz := pw_cell_below hall ((blk_cell BK2.out 0).trans rfl)
        have hb08 : Below w.heap.size w w8 := HBW.out.trans ((HBW2.out.trans (hall.mono HBW2.out.size)).mono HBW.out.size)
        have HC8 := Lib.hid hC8
        have HB08 := Lib.hid hb08
        have hl3 : (usesL i ++ [i.f1]).length ≤ 1000 := by simp; omega
        clear hb08 hall
        obtain ⟨l, hl⟩ : ∃ l, l = usesL i ++ [i.f1] := ⟨_, rfl⟩
        rw [← hl] at HC8 hl8 hl3 ⊢
        have HL := Lib.hid hl
        clear hl
        go_wp2_with (first | (go_at_call 75; refine (contains_calls A8 c8 l g2 R _ HC8.out hl3 hgz).mono ?_; rintro e w9 ⟨rfl, hb9⟩) | fail)
        go_ret
        exact ⟨by rw [HL.out]; simp, HB08.out.trans (hb9.mono HB08.out.size)⟩
      | false =>
        go_enter Try.func62, Try.ntmps62
        go_upto_region 7 with (first
    | ((with_reducible refine gate_dst (N := 2) rfl ?_); refine box_event ?hg (N := 2) ?hd (cs := #[.int .u8 i.f0, .int .i64 i.f1, .int .i64 i.f2, .int .i64 i.f3, .int .i64 i.f4, .string i.f5]) (t := 62) ?hr ?_; (case hd => rfl); (case hg => rfl); (case hr => first | (go_simp; done) | (go_simp; rfl)); intro g hg w3 hbox hbw; have BK := Lib.hid hbox; have HBW := Lib.hid hbw; have HG := Lib.hid hg; clear hbox hbw hg)
    | ((with_reducible refine gate_dst (N := 3) rfl ?_); refine box_event ?hg (N := 3) ?hd (cs := #[.int .i64 R]) (t := 3) ?hr ?_; (case hd => rfl); (case hg => rfl); (case hr => first | (go_simp; done) | (go_simp; rfl)); intro g2 hg2 w4 hbox2 hbw2; have BK2 := Lib.hid hbox2; obtain ⟨z0, z1, z2, z3, z4, z5⟩ := cells6 (heap_below BK.out hbw2); have HBK := Lib.hid (heap_below BK.out hbw2); have HBW2 := Lib.hid hbw2; have HG2 := Lib.hid hg2; clear hbox2 hbw2 hg2)
    | (go_at_call 27; refine (ir_Uses.calls _ _ _ _ _ _ _ _ hU.out).mono ?_; rintro e w5 ⟨v5, rfl, hR5, hb5⟩; obtain ⟨A5, c5, rfl, hl5, hC5⟩ := Kd.R_reads hR5; obtain ⟨y0, y1, y2, y3, y4, y5⟩ := cells6 (heap_below HBK.out hb5); have HB5 := Lib.hid hb5; have HC5 := Lib.hid hC5; clear hb5 hC5 hR5)
    | (go_at_call 26; refine (ir_Defines.calls _ _ _ _ _ _ 0 false _ hD.out).mono ?_; rintro e w6 ⟨rfl, hb6⟩; have HB6 := Lib.hid hb6; clear hb6)
    | fail)
        have hall : Below w4.heap.size w4 w6 := HB5.out.trans (HB6.out.mono HB5.out.size)
        have hgz := pw_cell_below hall ((blk_cell BK2.out 0).trans rfl)
        have hb06 : Below w.heap.size w w6 := HBW.out.trans ((HBW2.out.trans (hall.mono HBW2.out.size)).mono HBW.out.size)
        have HB06 := Lib.hid hb06
        clear hb06 hall
        go_wp2_with (first | (go_at_call 75; refine (contains_calls A5 c5 (usesL i) g2 R _ (Kd.C_below HC5.out HB6.out) (by omega) hgz).mono ?_; rintro e w9 ⟨rfl, hb9⟩) | fail)
        go_ret
        exact ⟨by simp, HB06.out.trans (hb9.mono HB06.out.size)⟩
end Go.Proofs.Ythgodpmahdnnjaa
end
section
namespace Go.Proofs.Ythgodpmahdnnjaa
open Go.RowKit Go.Proofs.YthgodpmahdnnjaaW.PrintWords Go.Proofs.YthgodpmahdnnjaaW.PrintMore Go.Proofs.Ythgodpmahdnnjaa.H
def endB (R : Int) (b : S43) : Bool := decide (1 ≤ b.f1) && decide (b.f1 ≤ 3) && (b.f1 != 2 || (decide (0 ≤ b.f2) && decide (b.f2 < R)))
def inB (n : Nat) (t : Int) : Bool := decide (0 ≤ t) && decide (t < n)
def blkB (R : Int) (n : Nat) (b : S43) : Bool := endB R b && (succL b).all (inB n) && b.f0.all (insB R)
def wfB (R : Int) (B : List S43) : Bool := B.length != 0 && decide (0 ≤ R) && decide (R ≤ 10000) && B.all (blkB R B.length)
theorem insB_iff (R : Nat) (i : S62) : insB R i = true ↔ OkI R i := by
  unfold insB insL
  by_cases h1 : i.f0 < 1
  · rw [if_pos h1]; exact ⟨fun h => (by cases h), fun h => (by have := h.lo; omega)⟩
  · rw [if_neg h1]
    by_cases h2 : 16 < i.f0
    · rw [if_pos h2]; exact ⟨fun h => (by cases h), fun h => (by have := h.hi; omega)⟩
    · rw [if_neg h2, Bool.not_eq_true', List.any_eq_false]
      have key : ∀ x : Int, ¬ outOf R x = true ↔ 0 ≤ x ∧ x < R := fun x => by unfold outOf; simp
      constructor
      · intro h
        refine ⟨by omega, by omega, fun hd => ?_, fun r hr => ?_⟩
        · exact (key _).1 (h i.f1 (by rw [if_pos hd]; simp))
        · exact (key _).1 (h r (List.mem_append.2 (.inl hr)))
      · intro h x hx
        rcases List.mem_append.1 hx with hx | hx
        · exact (key _).2 (h.u x hx)
        · by_cases hd : (shp i.f0).1 = true
          · rw [if_pos hd] at hx
            have : x = i.f1 := by simpa using hx
            subst this
            exact (key _).2 (h.d hd)
          · rw [if_neg hd] at hx; cases hx
theorem blkB_iff (R n : Nat) (b : S43) : blkB R n b = true ↔ OkB R n b := by
  unfold blkB endB inB
  simp only [Bool.and_eq_true, decide_eq_true_eq, List.all_eq_true, Bool.or_eq_true, bne_iff_ne]
  constructor
  · rintro ⟨⟨⟨⟨h1, h2⟩, h3⟩, h4⟩, h5⟩
    exact ⟨fun i hi => (insB_iff R i).1 (h5 i hi), h1, h2, fun h => by rcases h3 with h3 | h3; exact absurd h h3; exact h3, h4⟩
  · rintro ⟨h1, h2, h3, h4, h5⟩
    exact ⟨⟨⟨⟨h2, h3⟩, by by_cases h : b.f1 = 2; exact .inr (h4 h); exact .inl h⟩, h5⟩, fun i hi => (insB_iff R i).2 (h1 i hi)⟩
theorem wfB_iff (R : Int) (B : List S43) : wfB R B = true ↔ ∃ n : Nat, R = n ∧ n ≤ 10000 ∧ OkF n B := by
  unfold wfB
  simp only [Bool.and_eq_true, decide_eq_true_eq, List.all_eq_true, bne_iff_ne, ne_eq, List.length_eq_zero_iff]
  constructor
  · rintro ⟨⟨⟨h1, h2⟩, h3⟩, h4⟩
    obtain ⟨n, rfl⟩ : ∃ n : Nat, R = n := ⟨R.toNat, by omega⟩
    exact ⟨n, rfl, by omega, h1, fun b hb => (blkB_iff n B.length b).1 (h4 b hb)⟩
  · rintro ⟨n, rfl, h1, h2⟩
    exact ⟨⟨⟨h2.ne, by omega⟩, by omega⟩, fun b hb => (blkB_iff n B.length b).2 (h2.b b hb)⟩
theorem blk_five {w : World} {g : Nat} {t : TypeId} {a b c d e : Value} (h : w.heap[g]? = some (.cells #[a, b, c, d, e] t (0, 0))) (u0 u1 u2 u3 u4 : Value) :
    (((((w.setCell ⟨g, 0, none⟩ u0).setCell ⟨g, 1, none⟩ u1).setCell ⟨g, 2, none⟩ u2).setCell ⟨g, 3, none⟩ u3).setCell ⟨g, 4, none⟩ u4).heap[g]? = some (.cells #[u0, u1, u2, u3, u4] t (0, 0)) :=
  blk_put (blk_put (blk_put (blk_put (blk_put h 0 u0 rfl) 1 u1 rfl) 2 u2 rfl) 3 u3 rfl) 4 u4 rfl
theorem cells5 {w : World} {g : Nat} {t : TypeId} {a b c d e : Value} (h : w.heap[g]? = some (.cells #[a, b, c, d, e] t (0, 0))) :
    w.cell? ⟨g, 0, none⟩ = some a ∧ w.cell? ⟨g, 1, none⟩ = some b ∧ w.cell? ⟨g, 2, none⟩ = some c ∧ w.cell? ⟨g, 3, none⟩ = some d ∧ w.cell? ⟨g, 4, none⟩ = some e :=
  ⟨(blk_cell h 0).trans rfl, (blk_cell h 1).trans rfl, (blk_cell h 2).trans rfl, (blk_cell h 3).trans rfl, (blk_cell h 4).trans rfl⟩
theorem cells4 {w : World} {g : Nat} {t : TypeId} {a b c d : Value} (h : w.heap[g]? = some (.cells #[a, b, c, d] t (0, 0))) :
    w.cell? ⟨g, 0, none⟩ = some a ∧ w.cell? ⟨g, 1, none⟩ = some b ∧ w.cell? ⟨g, 2, none⟩ = some c ∧ w.cell? ⟨g, 3, none⟩ = some d :=
  ⟨(blk_cell h 0).trans rfl, (blk_cell h 1).trans rfl, (blk_cell h 2).trans rfl, (blk_cell h 3).trans rfl⟩
set_option maxHeartbeats 4000000 in
set_option maxRecDepth 100000 in
theorem wf_calls (nm : ByteArray) (R : Int) (A2 : Option Addr) (c2 n2 : Nat) (A3 : Option Addr) (c3 : Nat) (B : List S43) (w : World) (hC3 : k43.C w A3 B.length B) (hc3 : B.length ≤ c3) (hn : B.length ≤ 1000) (hcode : ∀ x ∈ B, x.f0.length ≤ 1000) :
    Calls Try.prog 35 #[.agg #[.string nm, .int .i64 R, .slice A2 n2 c2, .slice A3 B.length c3]] w fun e w' => e = .returned (.bool (wfB R B)) ∧ Below w.heap.size w w' := by
  have HC3 := Lib.hid hC3
  have HCO := Lib.hid hcode
  clear hC3 hcode
  unfold wfB
  by_cases h0 : B.length = 0
  · have b0 : ((B.length : Int) == 0) = true := by rw [h0]; rfl
    have hr : (B.length != 0) = false := by rw [h0]; rfl
    rw [hr]
    have HR := Lib.hid hr
    clear hr h0
    go_enter Try.func35, Try.ntmps35
    go_wp2_with (first
      | ((with_reducible refine gate_dst (N := 1) rfl ?_); refine box_event ?hg (N := 1) ?hd (cs := #[.string nm, .int .i64 R, .slice A2 n2 c2, .slice A3 B.length c3]) (t := 25) ?hr ?_; (case hd => rfl); (case hg => rfl); (case hr => first | (go_simp; done) | (go_simp; rfl)); intro g hg w3 hbox hbw; obtain ⟨z0, z1, z2, z3⟩ := cells4 hbox; have HBW := Lib.hid hbw; clear hbox hbw; have HG := Lib.hid hg; clear hg)
      | fail)
    go_ret
    exact ⟨by simp, HBW.out⟩
  · have b0 : ((B.length : Int) == 0) = false := by simpa using h0
    have hr : (B.length != 0) = true := by simpa using h0
    rw [hr]
    clear hr
    by_cases h1 : R < 0
    · have b1 : decide (R < 0) = true := decide_eq_true h1
      have hr : decide (0 ≤ R) = false := decide_eq_false (by omega)
      rw [hr]
      clear hr h1
      go_enter Try.func35, Try.ntmps35
      go_wp2_with (first
        | ((with_reducible refine gate_dst (N := 1) rfl ?_); refine box_event ?hg (N := 1) ?hd (cs := #[.string nm, .int .i64 R, .slice A2 n2 c2, .slice A3 B.length c3]) (t := 25) ?hr ?_; (case hd => rfl); (case hg => rfl); (case hr => first | (go_simp; done) | (go_simp; rfl)); intro g hg w3 hbox hbw; obtain ⟨z0, z1, z2, z3⟩ := cells4 hbox; have HBW := Lib.hid hbw; clear hbox hbw; have HG := Lib.hid hg; clear hg)
        | fail)
      go_ret
      exact ⟨by simp, HBW.out⟩
    · have b1 : decide (R < 0) = false := decide_eq_false h1
      have hr : decide (0 ≤ R) = true := decide_eq_true (by omega)
      rw [hr]
      clear hr
      by_cases h2 : 10000 < R
      · have b2 : decide (10000 < R) = true := decide_eq_true h2
        have hr : decide (R ≤ 10000) = false := decide_eq_false (by omega)
        rw [hr]
        clear hr h1 h2
        go_enter Try.func35, Try.ntmps35
        go_wp2_with (first
          | ((with_reducible refine gate_dst (N := 1) rfl ?_); refine box_event ?hg (N := 1) ?hd (cs := #[.string nm, .int .i64 R, .slice A2 n2 c2, .slice A3 B.length c3]) (t := 25) ?hr ?_; (case hd => rfl); (case hg => rfl); (case hr => first | (go_simp; done) | (go_simp; rfl)); intro g hg w3 hbox hbw; obtain ⟨z0, z1, z2, z3⟩ := cells4 hbox; have HBW := Lib.hid hbw; clear hbox hbw; have HG := Lib.hid hg; clear hg)
          | fail)
        go_ret
        exact ⟨by simp, HBW.out⟩
      · have b2 : decide (10000 < R) = false := decide_eq_false h2
        have hr : decide (R ≤ 10000) = true := decide_eq_true (by omega)
        rw [hr]
        clear hr h0
        go_enter Try.func35, Try.ntmps35
        go_wp2_with (first
          | ((with_reducible refine gate_dst (N := 1) rfl ?_); refine box_event ?hg (N := 1) ?hd (cs := #[.string nm, .int .i64 R, .slice A2 n2 c2, .slice A3 B.length c3]) (t := 25) ?hr ?_; (case hd => rfl); (case hg => rfl); (case hr => first | (go_simp; done) | (go_simp; rfl)); intro g hg w3 hbox hbw; obtain ⟨z0, z1, z2, z3⟩ := cells4 hbox; have BK := Lib.hid hbox; have HBW := Lib.hid hbw; clear hbox hbw; have HG := Lib.hid hg; clear hg)
          | fail)
        clear z0 z1 z2 z3 b0 b1 b2
        have hg0 : w.heap.size ≤ g := by rw [HG.out]; exact Nat.le_refl _
        clear HG
        go_loopw [26] (fun v wr => ∃ i : Nat, i ≤ B.length ∧ v = .int .i64 i ∧ (B.take i).all (blkB R B.length) = true ∧ wr.heap[g]? = some (.cells #[.string nm, .int .i64 R, .slice A2 n2 c2, .slice A3 B.length c3] 25 (0, 0)) ∧ Below w.heap.size w wr) (fun v _ => B.length - (intOf v).toNat)
        case atStart => exact ⟨0, Nat.zero_le _, rfl, by simp, BK.out, HBW.out⟩
        case round =>
          clear BK HBW
          obtain ⟨i, hi, rfl, hall, hbk, hb⟩ := hrel
          obtain ⟨wo, rfl⟩ : ∃ wo, wo = wr := ⟨_, rfl⟩
          by_cases hlt : i < B.length
          · obtain ⟨ad, A0, c0, hA3, q0, q1, q2, q3, q4, hl0, hC0⟩ := at_T43 (Kd.C_below HC3.out hb) (i : Int) (by omega) (by omega)
            subst hA3
            rw [Int.toNat_natCast] at q0 q1 q2 q3 q4
            have hrd : rd_T43 B (i : Int) = B.getD i z43 := by unfold rd_T43; rw [Int.toNat_natCast]
            rw [hrd] at q0 q1 q2 q3 q4 hl0 hC0
            have hmem := memB hlt
            have hstep : (B.take (i + 1)).all (blkB R B.length) = blkB R B.length (B.getD i z43) := by
              rw [List.take_succ_eq_append_getElem hlt, List.all_append, hall, List.getD_eq_getElem?_getD, List.getElem?_eq_getElem hlt]; simp
            have hno : blkB R B.length (B.getD i z43) = false → B.all (blkB R B.length) = false := fun h => by
              rw [List.all_eq_false]; exact ⟨_, hmem, by rw [h]; simp⟩
            obtain ⟨x, hx⟩ : ∃ x, x = B.getD i z43 := ⟨_, rfl⟩
            rw [← hx] at q0 q1 q2 q3 q4 hl0 hC0 hstep hno hmem
            have hcl := HCO.out x hmem
            have HC0 := Lib.hid hC0
            have HST := Lib.hid hstep
            have HNO := Lib.hid hno
            have HBK := Lib.hid hbk
            have HB := Lib.hid hb
            clear hC0 hstep hno hbk hb hrd hx hmem hall
            go_upto_region 6 with (first
              | ((with_reducible refine gate_dst (N := 4) rfl ?_); refine box_event ?hg (N := 4) ?hd (cs := #[.slice none 0 0, .int .u8 0, .int .i64 0, .int .i64 0, .int .i64 0]) (t := 43) ?hr ?_; (case hd => rfl); (case hg => rfl); (case hr => first | (go_simp; done) | (go_simp; rfl)); intro g4 hg4 w4 hbox4 hbw4; obtain ⟨y0, y1, y2, y3, y4⟩ := cells5 hbox4; have f0 := blk_frozen hbox4 0; have f1 := blk_frozen hbox4 1; have f2 := blk_frozen hbox4 2; have f3 := blk_frozen hbox4 3; have f4 := blk_frozen hbox4 4; have BK4 := Lib.hid hbox4; have HBW4 := Lib.hid hbw4; have HG4 := Lib.hid hg4; clear hbox4 hbw4 hg4)
              | fail)
            have hgl := heap_lt HBK.out
            have hg4l : wo.heap.size ≤ g4 := by rw [HG4.out]; exact Nat.le_refl _
            obtain ⟨w6, hw6⟩ : ∃ w6, w6 = (((((w4.setCell ⟨g4, 0, none⟩ (.slice A0 x.f0.length c0)).setCell ⟨g4, 1, none⟩ (.int .u8 x.f1)).setCell ⟨g4, 2, none⟩ (.int .i64 x.f2)).setCell ⟨g4, 3, none⟩ (.int .i64 x.f3)).setCell ⟨g4, 4, none⟩ (.int .i64 x.f4)) := ⟨_, rfl⟩
            have hb46 : Below wo.heap.size wo w6 := by
              rw [hw6]
              exact ((((HBW4.out.setCell (p := ⟨g4, 0, none⟩) hg4l _).setCell (p := ⟨g4, 1, none⟩) hg4l _).setCell (p := ⟨g4, 2, none⟩) hg4l _).setCell (p := ⟨g4, 3, none⟩) hg4l _).setCell (p := ⟨g4, 4, none⟩) hg4l _
            have hbk6 := heap_below HBK.out hb46
            have hk6 : w6.heap[g4]? = some (.cells #[.slice A0 x.f0.length c0, .int .u8 x.f1, .int .i64 x.f2, .int .i64 x.f3, .int .i64 x.f4] 43 (0, 0)) := by rw [hw6]; exact blk_five BK4.out _ _ _ _ _
            rw [← hw6]
            obtain ⟨t0, t1, t2, t3, t4⟩ := cells5 hk6
            obtain ⟨s0, s1, s2, s3⟩ := cells4 hbk6
            have HB6 := Lib.hid (HB.out.trans (hb46.mono HB.out.size))
            have HB46 := Lib.hid hb46
            have HBK6 := Lib.hid hbk6
            have HK6 := Lib.hid hk6
            clear hw6 hb46 hbk6 hk6 HG4 y0 y1 y2 y3 y4 f0 f1 f2 f3 f4 q0 q1 q2 q3 q4 hg4l hgl BK4 HBW4
            have hends : (decide (x.f1 < 1) = true ∧ endB R x = false) ∨ (decide (x.f1 < 1) = false ∧ decide (3 < x.f1) = true ∧ endB R x = false) ∨
                (decide (x.f1 < 1) = false ∧ decide (3 < x.f1) = false ∧ (x.f1 == 2) = true ∧ decide (x.f2 < 0) = true ∧ endB R x = false) ∨
                (decide (x.f1 < 1) = false ∧ decide (3 < x.f1) = false ∧ (x.f1 == 2) = true ∧ decide (x.f2 < 0) = false ∧ decide (R ≤ x.f2) = true ∧ endB R x = false) ∨
                (decide (x.f1 < 1) = false ∧ decide (3 < x.f1) = false ∧ (x.f1 == 2) = true ∧ decide (x.f2 < 0) = false ∧ decide (R ≤ x.f2) = false ∧ endB R x = true) ∨
                (decide (x.f1 < 1) = false ∧ decide (3 < x.f1) = false ∧ (x.f1 == 2) = false ∧ endB R x = true) := by
              unfold endB
              by_cases e1 : x.f1 < 1
              · left; simp [e1, show ¬ 1 ≤ x.f1 by omega]
              · by_cases e2 : 3 < x.f1
                · right; left; simp [e1, e2, show ¬ x.f1 ≤ 3 by omega]
                · by_cases e3 : x.f1 = 2
                  · by_cases e4 : x.f2 < 0
                    · right; right; left; simp [e3, e4, show ¬ 0 ≤ x.f2 by omega]
                    · by_cases e5 : R ≤ x.f2
                      · right; right; right; left; simp [e3, e4, e5, show ¬ x.f2 < R by omega]
                      · right; right; right; right; left; simp [e3, e4, e5, show 0 ≤ x.f2 by omega, show x.f2 < R by omega]
                  · right; right; right; right; right; simp [e1, e2, e3, show 1 ≤ x.f1 by omega, show x.f1 ≤ 3 by omega]
            rcases hends with ⟨b1, hE⟩ | ⟨b1, b2, hE⟩ | ⟨b1, b2, b3, b4, hE⟩ | ⟨b1, b2, b3, b4, b5, hE⟩ | ⟨b1, b2, b3, b4, b5, hE⟩ | ⟨b1, b2, b3, hE⟩
            iterate 4
              · have HF := Lib.hid (HNO.out (by unfold blkB; rw [hE]; rfl))
                clear hE
                go_wp2
                go_ret
                exact ⟨by rw [HF.out]; rfl, HB6.out⟩
            all_goals
              have HE := Lib.hid hE
              have HSU := Lib.hid (Succ_f x 1 (Nat.le_refl _))
              clear hE
              go_wp2_with (first
                | (go_at_call 24; refine (ir_Succ.calls 1 A0 c0 x.f0 x.f1 x.f2 x.f3 x.f4 _ _ (Kd.C_below HC0.out HB46.out) hl0 HSU.out).mono ?_; rintro e w7 ⟨v7, rfl, hR7, hb7⟩; obtain ⟨A7, c7, rfl, hl7, hC7⟩ := Kd.R_reads hR7; have HC7 := Lib.hid hC7; have HB7 := Lib.hid hb7; clear hR7 hC7 hb7)
                | fail)
              have hbk7 := heap_below HBK6.out HB7.out
              have hk7 := heap_below HK6.out HB7.out
              have hb07 : Below w.heap.size w w7 := HB6.out.trans (HB7.out.mono HB6.out.size)
              have hb47 : Below wo.heap.size wo w7 := HB46.out.trans (HB7.out.mono HB46.out.size)
              obtain ⟨r0, r1, r2, r3, r4⟩ := cells5 hk7
              obtain ⟨p0, p1, p2, p3⟩ := cells4 hbk7
              have HBK7 := Lib.hid hbk7
              have HB07 := Lib.hid hb07
              have HB47 := Lib.hid hb47
              have hLl := succL_len x
              obtain ⟨L, hL⟩ : ∃ L, L = succL x := ⟨_, rfl⟩
              rw [← hL] at HC7 hl7 hLl ⊢
              have HL := Lib.hid hL
              clear hbk7 hk7 hb07 hb47 hL t0 t1 t2 t3 t4 s0 s1 s2 s3 HSU b1 b2 b3
              try clear b4
              try clear b5
              go_loopw [58] (fun v wr' => ∃ j : Nat, j ≤ L.length ∧ v = .int .i64 j ∧ (L.take j).all (inB B.length) = true ∧ wr' = w7) (fun v _ => L.length - (intOf v).toNat)
              case atStart => exact ⟨0, Nat.zero_le _, rfl, by simp, rfl⟩
              case round =>
                obtain ⟨j, hj, rfl, hLa, hwr⟩ := hrel
                rw [hwr]
                clear hwr
                by_cases hjl : j < L.length
                · obtain ⟨a7, rfl, hq7⟩ := at_ints HC7.out j hjl
                  have hst : (L.take (j + 1)).all (inB B.length) = inB B.length (L.getD j 0) := by
                    rw [List.take_succ_eq_append_getElem hjl, List.all_append, hLa, List.getD_eq_getElem?_getD, List.getElem?_eq_getElem hjl]; simp
                  have hbad : inB B.length (L.getD j 0) = false → L.all (inB B.length) = false := fun h => by
                    rw [List.all_eq_false]; exact ⟨L.getD j 0, by rw [List.getD_eq_getElem?_getD, List.getElem?_eq_getElem hjl]; simp, by rw [h]; simp⟩
                  obtain ⟨q, hq⟩ : ∃ q, q = L.getD j 0 := ⟨_, rfl⟩
                  rw [← hq] at hq7 hst hbad
                  have HS := Lib.hid hst
                  have HBAD := Lib.hid hbad
                  clear hq hst hbad hLa
                  have hcs : (decide (q < 0) = true ∧ inB B.length q = false) ∨ (decide (q < 0) = false ∧ decide ((B.length : Int) ≤ q) = true ∧ inB B.length q = false) ∨ (decide (q < 0) = false ∧ decide ((B.length : Int) ≤ q) = false ∧ inB B.length q = true) := by
                    unfold inB
                    by_cases e1 : q < 0
                    · left; simp [e1, show ¬ 0 ≤ q by omega]
                    · by_cases e2 : (B.length : Int) ≤ q
                      · right; left; simp [e1, e2, show ¬ q < (B.length : Int) by omega]
                      · right; right; simp [e1, e2, show 0 ≤ q by omega, show q < (B.length : Int) by omega]
                  rcases hcs with ⟨d1, hI⟩ | ⟨d1, d2, hI⟩ | ⟨d1, d2, hI⟩
                  iterate 2
                    · have HF := Lib.hid (HNO.out (by unfold blkB; rw [← HL.out, HBAD.out hI, Bool.and_false]; rfl))
                      clear hI
                      go_wp2
                      go_ret
                      exact ⟨by rw [HF.out]; rfl, HB07.out⟩
                  · have HX := Lib.hid (HS.out.trans hI)
                    clear hI
                    go_wp2
                    go_roundw
                    case rel => exact ⟨j + 1, by omega, by go_num, HX.out, by first | trivial | rfl⟩
                    case measure => simp [intOf]; omega
                · have e : j = L.length := by omega
                  subst e
                  rw [List.take_length] at hLa
                  have HLA := Lib.hid hLa
                  clear hLa
                  go_wp2
                  go_loopw [75] (fun v wq => ∃ k : Nat, k ≤ x.f0.length ∧ v = .int .i64 k ∧ (x.f0.take k).all (insB R) = true ∧ wq.heap[g]? = some (.cells #[.string nm, .int .i64 R, .slice A2 n2 c2, .slice (some ad) B.length c3] 25 (0, 0)) ∧ Below wo.heap.size wo wq) (fun v _ => x.f0.length - (intOf v).toNat)
                  case atStart => exact ⟨0, Nat.zero_le _, rfl, by simp, HBK7.out, HB47.out⟩
                  case round =>
                    obtain ⟨k, hk, rfl, hka, hkb, hkw⟩ := hrel
                    by_cases hkl : k < x.f0.length
                    · obtain ⟨ax, hA0, i0, i1, i2, i3, i4, i5⟩ := at_T62 (Kd.C_below HC0.out hkw) (k : Int) (by omega) (by omega)
                      subst hA0
                      rw [Int.toNat_natCast] at i0 i1 i2 i3 i4 i5
                      have hrd : rd_T62 x.f0 (k : Int) = x.f0.getD k z62 := by unfold rd_T62; rw [Int.toNat_natCast]
                      rw [hrd] at i0 i1 i2 i3 i4 i5
                      have hst : (x.f0.take (k + 1)).all (insB R) = insB R (x.f0.getD k z62) := by
                        rw [List.take_succ_eq_append_getElem hkl, List.all_append, hka, List.getD_eq_getElem?_getD, List.getElem?_eq_getElem hkl]; simp
                      have hbad : insB R (x.f0.getD k z62) = false → x.f0.all (insB R) = false := fun h => by
                        rw [List.all_eq_false]; exact ⟨x.f0.getD k z62, memI hkl, by rw [h]; simp⟩
                      obtain ⟨y, hy⟩ : ∃ y, y = x.f0.getD k z62 := ⟨_, rfl⟩
                      rw [← hy] at i0 i1 i2 i3 i4 i5 hst hbad
                      have HS := Lib.hid hst
                      have HBAD := Lib.hid hbad
                      have HKB := Lib.hid hkb
                      have HKW := Lib.hid hkw
                      clear hy hst hbad hka hrd hkb hkw
                      go_upto_region 17 with (first
                        | ((with_reducible refine gate_dst (N := 8) rfl ?_); refine box_event ?hg (N := 8) ?hd (cs := #[.int .u8 0, .int .i64 0, .int .i64 0, .int .i64 0, .int .i64 0, .string ⟨#[]⟩]) (t := 62) ?hr ?_; (case hd => rfl); (case hg => rfl); (case hr => first | (go_simp; done) | (go_simp; rfl)); intro g8 hg8 w8 hbox8 hbw8; obtain ⟨y0, y1, y2, y3, y4, y5⟩ := cells6 hbox8; have f0 := blk_frozen hbox8 0; have f1 := blk_frozen hbox8 1; have f2 := blk_frozen hbox8 2; have f3 := blk_frozen hbox8 3; have f4 := blk_frozen hbox8 4; have f5 := blk_frozen hbox8 5; have BK8 := Lib.hid hbox8; have HBW8 := Lib.hid hbw8; have HG8 := Lib.hid hg8; clear hbox8 hbw8 hg8)
                        | fail)
                      have hg8l : wr.heap.size ≤ g8 := by rw [HG8.out]; exact Nat.le_refl _
                      obtain ⟨w9, hw9⟩ : ∃ w9, w9 = ((((((w8.setCell ⟨g8, 0, none⟩ (.int .u8 y.f0)).setCell ⟨g8, 1, none⟩ (.int .i64 y.f1)).setCell ⟨g8, 2, none⟩ (.int .i64 y.f2)).setCell ⟨g8, 3, none⟩ (.int .i64 y.f3)).setCell ⟨g8, 4, none⟩ (.int .i64 y.f4)).setCell ⟨g8, 5, none⟩ (.string y.f5)) := ⟨_, rfl⟩
                      have hb9 : Below wr.heap.size wr w9 := by
                        rw [hw9]
                        exact (((((HBW8.out.setCell (p := ⟨g8, 0, none⟩) hg8l _).setCell (p := ⟨g8, 1, none⟩) hg8l _).setCell (p := ⟨g8, 2, none⟩) hg8l _).setCell (p := ⟨g8, 3, none⟩) hg8l _).setCell (p := ⟨g8, 4, none⟩) hg8l _).setCell (p := ⟨g8, 5, none⟩) hg8l _
                      have hk9 : w9.heap[g8]? = some (.cells #[.int .u8 y.f0, .int .i64 y.f1, .int .i64 y.f2, .int .i64 y.f3, .int .i64 y.f4, .string y.f5] 62 (0, 0)) := by rw [hw9]; exact blk_six BK8.out _ _ _ _ _ _
                      rw [← hw9]
                      have hbk9 := heap_below HKB.out hb9
                      obtain ⟨m0, m1, m2, m3, m4, m5⟩ := cells6 hk9
                      obtain ⟨l0, l1, l2, l3⟩ := cells4 hbk9
                      have HB9 := Lib.hid hb9
                      have HBK9 := Lib.hid hbk9
                      clear hw9 hb9 hk9 hbk9 y0 y1 y2 y3 y4 y5 f0 f1 f2 f3 f4 f5 i0 i1 i2 i3 i4 i5 HBW8 BK8 HG8 hg8l r0 r1 r2 r3 r4 p0 p1 p2 p3
                      obtain ⟨o, ho⟩ : ∃ o, o = insB R y := ⟨_, rfl⟩
                      rw [← ho] at HS HBAD
                      have HO := Lib.hid ho
                      clear ho
                      cases o with
                      | true =>
                        go_wp2_with (first | (go_at_call 62; refine (instruction_calls y R _).mono ?_; rw [← HO.out]; rintro e w10 ⟨rfl, hb10⟩; have HB10 := Lib.hid hb10; clear hb10) | fail)
                        go_roundw
                        case rel =>
                          exact ⟨k + 1, by omega, by go_num, HS.out, heap_below HBK9.out HB10.out, HKW.out.trans ((HB9.out.trans (HB10.out.mono HB9.out.size)).mono HKW.out.size)⟩
                        case measure => simp [intOf]; omega
                      | false =>
                        have HF := Lib.hid (HNO.out (by unfold blkB; rw [HBAD.out (by first | trivial | rfl), Bool.and_false]))
                        go_wp2_with (first | (go_at_call 62; refine (instruction_calls y R _).mono ?_; rw [← HO.out]; rintro e w10 ⟨rfl, hb10⟩; have HB10 := Lib.hid hb10; clear hb10) | fail)
                        go_ret
                        exact ⟨by rw [HF.out]; rfl, HB.out.trans ((HKW.out.trans ((HB9.out.trans (HB10.out.mono HB9.out.size)).mono HKW.out.size)).mono HB.out.size)⟩
                    · have e : k = x.f0.length := by omega
                      rw [e, List.take_length] at hka
                      have HX := Lib.hid (HST.out.trans (show blkB R B.length x = true by unfold blkB; rw [HE.out, ← HL.out, HLA.out, hka]; rfl))
                      have HKB := Lib.hid hkb
                      have HKW := Lib.hid (HB.out.trans (hkw.mono HB.out.size))
                      clear hka hkb hkw
                      go_wp2
                      go_roundw
                      case rel => exact ⟨i + 1, by omega, by go_num, HX.out, HKB.out, HKW.out⟩
                      case measure => simp [intOf]; omega
          · have e : i = B.length := by omega
            rw [e, List.take_length] at hall
            have HA := Lib.hid hall
            have HB := Lib.hid hb
            clear hall hb hbk
            go_wp2
            go_ret
            exact ⟨by rw [HA.out]; rfl, HB.out⟩
end Go.Proofs.Ythgodpmahdnnjaa
end
section
namespace Go.Proofs.Ythgodpmahdnnjaa
open Go.RowKit Go.Proofs.YthgodpmahdnnjaaW.PrintWords
def marks (Ds : List Nat) : List Deferred := Ds.map fun D => { target := .collected D, args := #[] }
def MarksOk (w : World) (base : Nat) (Ds : List Nat) : Prop := Ds.Nodup ∧ ∀ D ∈ Ds, base ≤ D ∧ w.heap[D]? = some (.deferred (some []))
theorem putObj_other (w : World) (D : Nat) (o : Obj) {i : Nat} (h : i ≠ D) : (w.putObj D o).heap[i]? = w.heap[i]? := by
  simp [World.putObj, Ne.symm h]
theorem putObj_size (w : World) (D : Nat) (o : Obj) : (w.putObj D o).heap.size = w.heap.size := by simp [World.putObj]
theorem below_putObj {w w1 : World} {base : Nat} (h : Below base w w1) (D : Nat) (o : Obj) (hD : base ≤ D) : Below base w (w1.putObj D o) :=
  ⟨h.os, h.tape, h.output, by rw [putObj_size]; exact h.size, fun k hk => (putObj_other _ _ _ (by omega)).trans (h.block k hk)⟩
theorem leaves_marks {F : Fence} {n : Nat} {P : Program} {fn : Func} {tmps : Array Value} {R : Ending → World → Prop} {base : Nat} : ∀ (Ds : List Nat) (w : World), MarksOk w base Ds →
    (∀ w' : World, Below base w w' → (∀ i, (∀ D ∈ Ds, i ≠ D) → w'.heap[i]? = w.heap[i]?) → ∃ v, (results fn tmps).run P w' = .ok v w' ∧ R (.returned v) w') →
    LeavesInM F n P fn tmps R (marks Ds) .returning w
  | [], w, _, h => h w (Below.refl _ _) (fun _ _ => rfl)
  | D :: Ds, w, hm, h => by
    have hD := hm.2 D (by simp)
    have hnd := List.nodup_cons.1 hm.1
    refine ⟨by simp, .inl ⟨D, w.putObj D (.deferred none), rfl, run_takeDeferred hD.2, ?_⟩⟩
    refine leaves_marks Ds _ ⟨hnd.2, fun E hE => ⟨(hm.2 E (by simp [hE])).1, ?_⟩⟩ (fun w' hs hk => ?_)
    · rw [putObj_other _ _ _ (fun e : E = D => hnd.1 (by rw [← e]; exact hE))]; exact (hm.2 E (by simp [hE])).2
    · refine h w' ((below_putObj (Below.refl _ _) D _ hD.1).trans hs) (fun i hi => ?_)
      rw [hk i (fun E hE => hi E (by simp [hE])), putObj_other _ _ _ (hi D (by simp))]
def retPost (F : Fence) (n : Nat) (P : Program) (fn : Func) (R : Ending → World → Prop) : Exit → Act → World → Prop
  | .normal, a, w | .ret, a, w => LeavesInM F n P fn a.tmps R a.defers .returning w
  | _, _, _ => False
theorem ret_marks {F : Fence} {n : Nat} {P : Program} {fn : Func} {tmps : Array Value} {R : Ending → World → Prop} {base : Nat} {Ds : List Nat} {w : World} (hm : MarksOk w base Ds)
    (h : ∀ w' : World, Below base w w' → (∀ i, (∀ D ∈ Ds, i ≠ D) → w'.heap[i]? = w.heap[i]?) → ∃ v, (results fn tmps).run P w' = .ok v w' ∧ R (.returned v) w') :
    retPost F n P fn R .ret { tmps := tmps, defers := marks Ds } w := leaves_marks Ds w hm h
theorem calls_of_wp_marks {P : Program} {f : FuncId} {fn : Func} {c : Code} {args : Array Value} {w : World} {R : Ending → World → Prop} (hf : P.funcs[f]? = some fn) (hb : fn.body = some c)
    (h : c.wp P (retPost Fence.wide 9 P fn R) { tmps := args ++ Array.replicate (fn.ntmps - args.size) undef, defers := [] } w) : Calls P f args w R :=
  (callsIn_wide (n := 9)).1 (callsIn_of_wp_marks hf hb trivial (wpIn_mono (wpIn_wide.2 h) fun e a w hq => by cases e <;> first | exact hq | exact hq.elim))
theorem ownFrom_kept {β : Type} {W1 : World} {B : Nat} (hB : W1.heap.size ≤ B) (S : β → Nat → Prop) : OwnFrom B (fun (s : β) W => Kept W1 W (S s)) :=
  fun s X Y row hs hg hr => ⟨Nat.le_trans hs.1 hg.size, fun k hk hS => (hg.block k (Nat.lt_of_lt_of_le hk hs.1) (fun e => by have := (hr k e.symm).1; omega)).trans (hs.2 k hk hS)⟩
theorem own_ownsRow {β : Type} (base : Nat) (e : TypeId) (sz : Nat) (v : β → Value) (n : β → Nat) (xs : β → List Value) : Own (fun s W => W.ownsRow base e sz (v s) (n s) (xs s)) := fun s X Y row hs hg hrow =>
  hs.kept hg (by
    rcases h : (v s).ownBlock with _ | g
    · exact .inl rfl
    · refine .inr fun e' => ?_
      obtain ⟨o, ho, hc⟩ := hrow g e'.symm
      rcases hs.2 with ⟨h1, _⟩ | ⟨g', cap, cur, h1, _, h3, _⟩
      · rw [h1] at h; cases h
      · rw [h1] at h; simp [Value.ownBlock] at h; subst h; rw [h3] at ho; cases ho; cases hc)
theorem own_cells {β : Type} (B : Nat) (cs : β → Array Value) (t : TypeId) : Own (fun s W => W.heap[B]? = some (.cells (cs s) t (0, 0))) := fun s X Y row hs hg hrow =>
  (hg.block B (Array.getElem?_eq_some_iff.1 hs).1 (fun e => by obtain ⟨o, ho, hc⟩ := hrow B e.symm; rw [hs] at ho; cases ho; cases hc)).trans hs
theorem keepsFrom_kept {B : Nat} {w w1 : World} {S : Nat → Prop} (hk : Kept w w1 S) (hS : ∀ k, S k → k < w.heap.size → ∃ cs t fr, w.heap[k]? = some (.cells cs t fr)) : KeepsFrom B w w1 :=
  ⟨hk.1, fun k o _ ho hc => (hk.2 k (Array.getElem?_eq_some_iff.1 ho).1 fun hs => by
    obtain ⟨cs, t, fr, e⟩ := hS k hs (Array.getElem?_eq_some_iff.1 ho).1
    rw [ho] at e; cases e; cases hc).trans ho⟩
end Go.Proofs.Ythgodpmahdnnjaa
end
section
namespace Go.Proofs.Ythgodpmahdnnjaa
open Go.RowKit Go.Proofs.YthgodpmahdnnjaaW.PrintWords Go.Proofs.YthgodpmahdnnjaaW.PrintMore Go.Proofs.Ythgodpmahdnnjaa.H
def goB (B : List S43) (r t : Nat) : Bool × Bool := goes (B.getD t z43) r (B.getD t z43).f0
def good (B : List S43) (r t : Nat) : Prop := (goB B r t).1 = true ∨ (goB B r t).2 = true ∧ LO B r t
theorem LO_of {B : List S43} {r b : Nat} {t : Int} (h0 : 0 ≤ t) (h : t ∈ succL (B.getD b z43)) (hg : good B r t.toNat) : LO B r b := by
  have e : ((t.toNat : Nat) : Int) = t := by omega
  rcases hg with hg | ⟨h1, h2⟩
  · exact .use (t := t.toNat) (by rw [e]; exact h) hg
  · exact .thru (t := t.toNat) (by rw [e]; exact h) h1 h2
theorem succ_ok {R : Nat} {B : List S43} (hB : OkF R B) {b : Nat} (hb : b < B.length) : ∀ t ∈ succL (B.getD b z43), 0 ≤ t ∧ t < B.length := (hB.b _ (memB hb)).succ
section
variable {nm : ByteArray} {RI : Int} {ar : List S107} {B : List S43} {R : Nat}
end
end Go.Proofs.Ythgodpmahdnnjaa
end
section
namespace Go.Proofs.Ythgodpmahdnnjaa
open Go.RowKit Go.Proofs.YthgodpmahdnnjaaW.PrintWords Go.Proofs.YthgodpmahdnnjaaW.PrintMore Go.Proofs.Ythgodpmahdnnjaa.H
theorem trN_bit {R n : Nat} {b : S43} (hb : OkB R n b) (m r : Nat) : (trN b m).testBit r = ((goes b r b.f0).1 || ((goes b r b.f0).2 && m.testBit r)) := goes_bit hb m r b.f0 hb.code
theorem le_of_bits {a b : Nat} (h : ∀ r, a.testBit r = true → b.testBit r = true) : a ≤ b := by
  have e : a &&& b = a := by
    apply Nat.eq_of_testBit_eq
    intro i
    rw [Nat.testBit_and]
    cases ha : a.testBit i with
    | false => rfl
    | true => rw [h i ha]; rfl
  rw [← e]; exact Nat.and_le_right
def joinN (I : Nat → Nat) (m : Nat) (l : List Int) : Nat := l.foldl (fun m t => m ||| I t.toNat) m
theorem joinN_bit (I : Nat → Nat) (r : Nat) : ∀ (l : List Int) (m : Nat), (joinN I m l).testBit r = true ↔ m.testBit r = true ∨ ∃ t ∈ l, (I t.toNat).testBit r = true
  | [], m => by simp [joinN]
  | t :: l, m => by
    show (joinN I (m ||| I t.toNat) l).testBit r = true ↔ _
    rw [joinN_bit I r l, Nat.testBit_or]
    simp only [Bool.or_eq_true, List.mem_cons, exists_eq_or_imp, or_assoc]
theorem joinN_lt {R : Nat} {I : Nat → Nat} : ∀ (l : List Int) (m : Nat), m < 2 ^ R → (∀ t ∈ l, I t.toNat < 2 ^ R) → joinN I m l < 2 ^ R
  | [], m, h, _ => h
  | t :: l, m, h, hl => joinN_lt l _ (Nat.or_lt_two_pow h (hl t (by simp))) (fun q hq => hl q (by simp [hq]))
structure SI (R : Nat) (B : List S43) (I O : Nat → Nat) (W : List Int) : Prop where
  lt : ∀ b, b < B.length → I b < 2 ^ R ∧ O b < 2 ^ R
  inW : ∀ b ∈ W, 0 ≤ b ∧ b < B.length
  soundI : ∀ b, b < B.length → ∀ r, (I b).testBit r = true → good B r b
  soundO : ∀ b, b < B.length → ∀ r, (O b).testBit r = true → LO B r b
  mono : ∀ b, b < B.length → ∀ r, (I b).testBit r = true → (trN (B.getD b z43) (O b)).testBit r = true
  fixed : ∀ b, b < B.length → ¬ (b : Int) ∈ W → I b = trN (B.getD b z43) (O b) ∧ ∀ t ∈ succL (B.getD b z43), ∀ r, (I t.toNat).testBit r = true → (O b).testBit r = true
def upd (I : Nat → Nat) (b v : Nat) : Nat → Nat := fun a => if a = b then v else I a
theorem upd_self (I : Nat → Nat) (b v : Nat) : upd I b v b = v := by simp [upd]
theorem upd_ne {I : Nat → Nat} {a b : Nat} (v : Nat) (h : a ≠ b) : upd I b v a = I a := by simp [upd, h]
section
variable {R : Nat} {B : List S43} {I O : Nat → Nat} {W : List Int} {b : Nat}
def outN (B : List S43) (I O : Nat → Nat) (b : Nat) : Nat := joinN I (O b) (succL (B.getD b z43))
def liveN (B : List S43) (I O : Nat → Nat) (b : Nat) : Nat := trN (B.getD b z43) (outN B I O b)
theorem SI.outN_lt (hB : OkF R B) (h : SI R B I O W) (hb : b < B.length) : outN B I O b < 2 ^ R :=
  joinN_lt _ _ (h.lt b hb).2 (fun t ht => (h.lt _ (by have := succ_ok hB hb t ht; omega)).1)
theorem SI.liveN_lt (hB : OkF R B) (h : SI R B I O W) (hb : b < B.length) : liveN B I O b < 2 ^ R := trN_lt (hB.b _ (memB hb)) (h.outN_lt hB hb)
theorem SI.outN_sound (hB : OkF R B) (h : SI R B I O W) (hb : b < B.length) (r : Nat) (hr : (outN B I O b).testBit r = true) : LO B r b := by
  rcases (joinN_bit I r _ _).1 hr with h1 | ⟨t, ht, h1⟩
  · exact h.soundO b hb r h1
  · have := succ_ok hB hb t ht
    exact LO_of this.1 ht (h.soundI t.toNat (by omega) r h1)
theorem SI.liveN_sound (hB : OkF R B) (h : SI R B I O W) (hb : b < B.length) (r : Nat) (hr : (liveN B I O b).testBit r = true) : good B r b := by
  unfold liveN at hr
  rw [trN_bit (hB.b _ (memB hb))] at hr
  simp only [Bool.or_eq_true, Bool.and_eq_true] at hr
  rcases hr with h1 | ⟨h1, h2⟩
  · exact .inl h1
  · exact .inr ⟨h1, h.outN_sound hB hb r h2⟩
theorem trN_mono (hB : OkF R B) (hb : b < B.length) {m m' : Nat} (hm : ∀ r, m.testBit r = true → m'.testBit r = true) (r : Nat) (h : (trN (B.getD b z43) m).testBit r = true) : (trN (B.getD b z43) m').testBit r = true := by
  rw [trN_bit (hB.b _ (memB hb))] at h ⊢
  simp only [Bool.or_eq_true, Bool.and_eq_true] at h ⊢
  rcases h with h1 | ⟨h1, h2⟩
  · exact .inl h1
  · exact .inr ⟨h1, hm r h2⟩
theorem outN_ge (r : Nat) (h : (O b).testBit r = true) : (outN B I O b).testBit r = true := (joinN_bit I r _ _).2 (.inl h)
theorem SI.le (hB : OkF R B) (h : SI R B I O W) (hb : b < B.length) : I b ≤ liveN B I O b :=
  le_of_bits fun r hr => trN_mono hB hb (fun q hq => outN_ge q hq) r (h.mono b hb r hr)
theorem SI.same (hB : OkF R B) (h : SI R B I O (W ++ [(b : Int)])) (hb : b < B.length) (he : liveN B I O b = I b) : SI R B I (upd O b (outN B I O b)) W := by
  refine ⟨fun a ha => ⟨(h.lt a ha).1, ?_⟩, fun a ha => h.inW a (by simp [ha]), h.soundI, fun a ha r hr => ?_, fun a ha r hr => ?_, fun a ha hW => ?_⟩
  · by_cases e : a = b
    · subst e; rw [upd_self]; exact h.outN_lt hB hb
    · rw [upd_ne _ e]; exact (h.lt a ha).2
  · by_cases e : a = b
    · subst e; rw [upd_self] at hr; exact h.outN_sound hB hb r hr
    · rw [upd_ne _ e] at hr; exact h.soundO a ha r hr
  · by_cases e : a = b
    · subst e; rw [upd_self]; rw [← he] at hr; exact hr
    · rw [upd_ne _ e]; exact h.mono a ha r hr
  · by_cases e : a = b
    · subst e
      rw [upd_self]
      exact ⟨he.symm, fun t ht r hr => (joinN_bit I r _ _).2 (.inr ⟨t, ht, hr⟩)⟩
    · rw [upd_ne _ e]
      exact h.fixed a ha (by simp only [List.mem_append, List.mem_singleton, not_or]; exact ⟨hW, by omega⟩)
theorem SI.push (hB : OkF R B) (h : SI R B I O (W ++ [(b : Int)])) (hb : b < B.length) {p : List Int} (hp : ∀ x ∈ p, 0 ≤ x ∧ x < B.length) (hpp : ∀ a, a < B.length → (b : Int) ∈ succL (B.getD a z43) → (a : Int) ∈ p) :
    SI R B (upd I b (liveN B I O b)) (upd O b (outN B I O b)) (W ++ p) := by
  have hle := h.le hB hb
  have hge : ∀ a r, a < B.length → (I a).testBit r = true → (upd I b (liveN B I O b) a).testBit r = true := fun a r ha hr => by
    by_cases e : a = b
    · subst e; rw [upd_self]; exact trN_mono hB hb (fun q hq => outN_ge q hq) r (h.mono a hb r hr)
    · rw [upd_ne _ e]; exact hr
  refine ⟨fun a ha => ?_, fun a ha => ?_, fun a ha r hr => ?_, fun a ha r hr => ?_, fun a ha r hr => ?_, fun a ha hW => ?_⟩
  · by_cases e : a = b
    · subst e; rw [upd_self, upd_self]; exact ⟨h.liveN_lt hB hb, h.outN_lt hB hb⟩
    · rw [upd_ne _ e, upd_ne _ e]; exact h.lt a ha
  · rcases List.mem_append.1 ha with h1 | h1
    · exact h.inW a (by simp [h1])
    · exact hp a h1
  · by_cases e : a = b
    · subst e; rw [upd_self] at hr; exact h.liveN_sound hB hb r hr
    · rw [upd_ne _ e] at hr; exact h.soundI a ha r hr
  · by_cases e : a = b
    · subst e; rw [upd_self] at hr; exact h.outN_sound hB hb r hr
    · rw [upd_ne _ e] at hr; exact h.soundO a ha r hr
  · by_cases e : a = b
    · subst e; rw [upd_self] at hr ⊢; exact hr
    · rw [upd_ne _ e] at hr ⊢; exact h.mono a ha r hr
  · simp only [List.mem_append, not_or] at hW
    have hnb : ¬ (b : Int) ∈ succL (B.getD a z43) := fun h1 => hW.2 (hpp a ha h1)
    by_cases e : a = b
    · subst e
      rw [upd_self, upd_self]
      refine ⟨rfl, fun t ht r hr => ?_⟩
      have h0 := succ_ok hB ha t ht
      have hne : t.toNat ≠ a := fun e1 => hnb (by rw [show (a : Int) = t by omega]; exact ht)
      rw [upd_ne _ hne] at hr
      exact (joinN_bit I r _ _).2 (.inr ⟨t, ht, hr⟩)
    · rw [upd_ne _ e, upd_ne _ e]
      have hf := h.fixed a ha (by simp only [List.mem_append, List.mem_singleton, not_or]; exact ⟨hW.1, by omega⟩)
      refine ⟨hf.1, fun t ht r hr => ?_⟩
      have h0 := succ_ok hB ha t ht
      have hne : t.toNat ≠ b := fun e1 => hnb (by rw [show (b : Int) = t by omega]; exact ht)
      rw [upd_ne _ hne] at hr
      exact hf.2 t ht r hr
theorem SI.start_ {n : Nat} (hn : n = B.length) : SI R B (fun _ => 0) (fun _ => 0) ((List.range n).map fun b : Nat => (b : Int)) := by
  subst hn
  have hz : ∀ r, (0 : Nat).testBit r = true → False := fun r h => by simp at h
  refine ⟨fun _ _ => ⟨Nat.two_pow_pos _, Nat.two_pow_pos _⟩, fun b hb => ?_, fun b _ r hr => (hz r hr).elim, fun b _ r hr => (hz r hr).elim, fun b _ r hr => (hz r hr).elim, fun b hb hW => ?_⟩
  · obtain ⟨a, ha, rfl⟩ := List.mem_map.1 hb
    have := List.mem_range.1 ha
    omega
  · exact absurd (List.mem_map.2 ⟨b, List.mem_range.2 hb, rfl⟩) hW
theorem SI.out_iff (hB : OkF R B) (h : SI R B I O []) (hb : b < B.length) (r : Nat) : (O b).testBit r = true ↔ LO B r b := by
  refine ⟨h.soundO b hb r, fun hl => ?_⟩
  induction hl with
  | @use b t ht hu =>
    have h0 := succ_ok hB hb _ ht
    have ht' : t < B.length := by omega
    refine (h.fixed b hb (by simp)).2 _ ht r ?_
    rw [Int.toNat_natCast, (h.fixed t ht' (by simp)).1, trN_bit (hB.b _ (memB ht')), hu]; rfl
  | @thru b t ht he _ ih =>
    have h0 := succ_ok hB hb _ ht
    have ht' : t < B.length := by omega
    refine (h.fixed b hb (by simp)).2 _ ht r ?_
    rw [Int.toNat_natCast, (h.fixed t ht' (by simp)).1, trN_bit (hB.b _ (memB ht')), he, ih ht']; simp
theorem point_iff (hB : OkF R B) (hb : b < B.length) {m : Nat} (hm : ∀ r, m.testBit r = true ↔ LO B r b) {l : List S62} (hl : ∀ i ∈ l, i ∈ (B.getD b z43).f0) (r : Nat) :
    (l.foldr befN (endN (B.getD b z43) m)).testBit r = true ↔ LI B r b l := by
  rw [goes_bit (hB.b _ (memB hb)) m r l (fun i hi => (hB.b _ (memB hb)).code i (hl i hi))]
  unfold LI
  simp only [Bool.or_eq_true, Bool.and_eq_true, hm]
theorem SI.in_iff (hB : OkF R B) (h : SI R B I O []) (hb : b < B.length) (r : Nat) : (I b).testBit r = true ↔ LI B r b (B.getD b z43).f0 := by
  rw [(h.fixed b hb (by simp)).1]
  exact point_iff hB hb (fun r => h.out_iff hB hb r) (fun _ hi => hi) r
end
def rank (R n : Nat) (I : Nat → Nat) : Nat := ((List.range n).map fun b => 2 ^ R - I b).sum
theorem rank_succ (R n : Nat) (I : Nat → Nat) : rank R (n + 1) I = rank R n I + (2 ^ R - I n) := by
  unfold rank
  rw [List.range_succ, List.map_append, List.sum_append]; simp
theorem rank_le (R : Nat) (I : Nat → Nat) : ∀ n, rank R n I ≤ n * 2 ^ R
  | 0 => by simp [rank]
  | n + 1 => by
    have := rank_le R I n
    rw [rank_succ, Nat.succ_mul]
    exact Nat.add_le_add this (Nat.sub_le _ _)
theorem rank_same {R b v : Nat} {I : Nat → Nat} : ∀ n, n ≤ b → rank R n (upd I b v) = rank R n I
  | 0, _ => rfl
  | n + 1, h => by rw [rank_succ, rank_succ, rank_same n (by omega), upd_ne _ (by omega)]
theorem rank_upd {R b v : Nat} {I : Nat → Nat} (h1 : I b < v) (h2 : v < 2 ^ R) : ∀ n, b < n → rank R n (upd I b v) + 1 ≤ rank R n I
  | 0, h => by omega
  | n + 1, h => by
    rw [rank_succ, rank_succ]
    by_cases e : b = n
    · subst e; rw [rank_same b (Nat.le_refl _), upd_self]; omega
    · have := rank_upd h1 h2 n (by omega)
      rw [upd_ne _ (Ne.symm e)]; omega
end Go.Proofs.Ythgodpmahdnnjaa
end
section
namespace Go.Proofs.Ythgodpmahdnnjaa
open Go.RowKit Go.Proofs.YthgodpmahdnnjaaW.PrintWords Go.Proofs.YthgodpmahdnnjaaW.PrintMore Go.Proofs.Ythgodpmahdnnjaa.H
def tk : Nat → IntKind
  | 2 => .i64
  | 3 => .i64
  | 5 => .i64
  | _ => .u64
def te : Nat → TypeId
  | 2 => 3
  | 3 => 3
  | 5 => 3
  | _ => 113
def dom (n t b : Nat) : Prop := b < n ∧ (t < 3 ∨ (t = 3 ∨ t = 4 ∨ t = 5) ∧ b = 0)
def Own1 (t : Nat) (w : World) (s0 : Nat) (v : Value) (l : List Int) : Prop := w.ownsRow s0 (te t) 1 v l.length (nums (tk t) l)
theorem Own1.of_R0 {t : Nat} {w : World} {s0 : Nat} {ok : Nat → Prop} {v : Value} {l : List Int} (h : Kd.R (Kd.int (tk t)) (te t) w s0 ok v l) : Own1 t w s0 v l := Kd.own_of_R h
theorem Own1.R0 {t : Nat} {w : World} {s0 : Nat} {ok : Nat → Prop} {v : Value} {l : List Int} (h : Own1 t w s0 v l) (hok : ∀ k, v.ownBlock = some k → ok k) : Kd.R (Kd.int (tk t)) (te t) w s0 ok v l := Kd.R_of_own h hok
theorem Own1.nil (t : Nat) (w : World) (s0 : Nat) : Own1 t w s0 (.slice none 0 0) [] := World.ownsRow_nil _ _ _ _
theorem Own1.lower {t : Nat} {w : World} {s0 s1 : Nat} {v : Value} {l : List Int} (h : Own1 t w s1 v l) (hs : s0 ≤ s1) : Own1 t w s0 v l := by
  refine ⟨h.1, h.2.imp id ?_⟩
  rintro ⟨g, cap, cur, e, hb, rest⟩
  exact ⟨g, cap, cur, e, by omega, rest⟩
theorem Own1.move {t : Nat} {w w1 : World} {s0 : Nat} {v : Value} {l : List Int} (h : Own1 t w s0 v l) (hm : ∀ k, v.ownBlock = some k → w1.heap[k]? = w.heap[k]?) : Own1 t w1 s0 v l := own_move h hm
theorem Own1.kept {t : Nat} {w w1 : World} {s0 : Nat} {v : Value} {l : List Int} {S : Nat → Prop} (h : Own1 t w s0 v l) (hk : Kept w w1 S) (hS : ∀ k, v.ownBlock = some k → ¬ S k) : Own1 t w1 s0 v l :=
  h.move fun k hv => hk.2 k (h.lt k hv).2 (hS k hv)
theorem Own1.cells {t : Nat} {w : World} {s0 : Nat} {v : Value} {l : List Int} (h : Own1 t w s0 v l) : ∀ k, v.ownBlock = some k → ∃ cs, w.heap[k]? = some (.cells cs (te t) (0, 0)) := by
  intro k hk
  rcases h.2 with ⟨rfl, _⟩ | ⟨g, cap, cur, rfl, _, hg, _⟩
  · cases hk
  · simp [Value.ownBlock] at hk; subst hk; exact ⟨cur, hg⟩
structure Tab (n s0 : Nat) (w : World) (V : Nat → Nat → Value) (L : Nat → Nat → List Int) : Prop where
  own : ∀ t b, dom n t b → Own1 t w s0 (V t b) (L t b)
  sep : ∀ t b t' b', dom n t b → dom n t' b' → (t ≠ t' ∨ b ≠ b') → ∀ k, (V t b).ownBlock = some k → (V t' b').ownBlock ≠ some k
variable {n s0 : Nat} {w w1 : World} {V V' : Nat → Nat → Value} {L L' : Nat → Nat → List Int}
theorem Tab.kept {S : Nat → Prop} (h : Tab n s0 w V L) (hk : Kept w w1 S) (hS : ∀ k, S k → k < s0 ∨ w.heap.size ≤ k) : Tab n s0 w1 V L := by
  refine ⟨fun t b hd => ?_, h.sep⟩
  have ho := h.own t b hd
  exact ho.kept hk fun k hv hs => by
    have hl := ho.lt k hv
    rcases hS k hs with h1 | h1 <;> omega
theorem Tab.below (h : Tab n s0 w V L) (hb : Below w.heap.size w w1) : Tab n s0 w1 V L := h.kept (S := fun _ => False) (Kept.of_below hb _) (fun _ hk => hk.elim)
theorem Tab.upd {t b : Nat} (h : Tab n s0 w V L) (hd : dom n t b) (hk : Kept w w1 (fun k => (V t b).ownBlock = some k)) (hv : Own1 t w1 s0 (V' t b) (L' t b))
    (hf : ∀ k, (V' t b).ownBlock = some k → (V t b).ownBlock = some k ∨ w.heap.size ≤ k) (ho : ∀ t' b', dom n t' b' → (t' ≠ t ∨ b' ≠ b) → V' t' b' = V t' b' ∧ L' t' b' = L t' b') : Tab n s0 w1 V' L' := by
  have key : ∀ t' b', dom n t' b' → (t' ≠ t ∨ b' ≠ b) → ∀ k, (V' t b).ownBlock = some k → (V' t' b').ownBlock ≠ some k := by
    intro t' b' hd' hne k hk1
    rw [(ho t' b' hd' hne).1]
    intro hk2
    rcases hf k hk1 with h1 | h1
    · exact h.sep t b t' b' hd hd' (by omega) k h1 hk2
    · have := ((h.own t' b' hd').lt k hk2).2; omega
  refine ⟨fun t' b' hd' => ?_, fun t1 b1 t2 b2 h1 h2 hne k hk1 hk2 => ?_⟩
  · by_cases e : t' = t ∧ b' = b
    · obtain ⟨rfl, rfl⟩ := e; exact hv
    · have hne : t' ≠ t ∨ b' ≠ b := by omega
      rw [(ho t' b' hd' hne).1, (ho t' b' hd' hne).2]
      exact (h.own t' b' hd').kept hk fun k hv' hS => h.sep t b t' b' hd hd' (by omega) k hS hv'
  · by_cases e : t1 = t ∧ b1 = b
    · obtain ⟨rfl, rfl⟩ := e
      exact key t2 b2 h2 (by omega) k hk1 hk2
    · by_cases e2 : t2 = t ∧ b2 = b
      · obtain ⟨rfl, rfl⟩ := e2
        exact key t1 b1 h1 (by omega) k hk2 hk1
      · rw [(ho t1 b1 h1 (by omega)).1] at hk1
        rw [(ho t2 b2 h2 (by omega)).1] at hk2
        exact h.sep t1 b1 t2 b2 h1 h2 hne k hk1 hk2
theorem Tab.give {b : Nat} (h : Tab n s0 w V L) (hb : b < n) (h1 : V' 0 b = V 4 0 ∧ L' 0 b = L 4 0) (h2 : V' 4 0 = .slice none 0 0 ∧ L' 4 0 = [])
    (ho : ∀ t' b', dom n t' b' → (t' ≠ 0 ∨ b' ≠ b) → t' ≠ 4 → V' t' b' = V t' b' ∧ L' t' b' = L t' b') : Tab n s0 w V' L' := by
  have d4 : dom n 4 0 := ⟨by omega, .inr ⟨.inr (.inl rfl), rfl⟩⟩
  have d0 : dom n 0 b := ⟨hb, .inl (by omega)⟩
  refine ⟨fun t' b' hd' => ?_, fun t1 b1 t2 b2 hd1 hd2 hne k hk1 hk2 => ?_⟩
  · by_cases e : t' = 0 ∧ b' = b
    · obtain ⟨rfl, rfl⟩ := e
      rw [h1.1, h1.2]
      exact h.own 4 0 d4
    · by_cases e4 : t' = 4
      · subst e4
        obtain rfl : b' = 0 := by rcases hd'.2 with h | h <;> omega
        rw [h2.1, h2.2]; exact Own1.nil _ _ _
      · rw [(ho t' b' hd' (by omega) e4).1, (ho t' b' hd' (by omega) e4).2]; exact h.own t' b' hd'
  · have dd : ∀ {t b}, dom n t b → t = 4 → b = 0 := fun hd e => by rcases hd.2 with h | h <;> omega
    have n1 : t1 ≠ 4 := fun e => by rw [e, dd hd1 e, h2.1] at hk1; cases hk1
    have n2 : t2 ≠ 4 := fun e => by rw [e, dd hd2 e, h2.1] at hk2; cases hk2
    by_cases e1 : t1 = 0 ∧ b1 = b
    · obtain ⟨rfl, rfl⟩ := e1
      rw [h1.1] at hk1
      rw [(ho t2 b2 hd2 (by omega) n2).1] at hk2
      exact h.sep 4 0 t2 b2 d4 hd2 (.inl (by omega)) k hk1 hk2
    · rw [(ho t1 b1 hd1 (by omega) n1).1] at hk1
      by_cases e2 : t2 = 0 ∧ b2 = b
      · obtain ⟨rfl, rfl⟩ := e2
        rw [h1.1] at hk2
        exact h.sep 4 0 t1 b1 d4 hd1 (.inl (by omega)) k hk2 hk1
      · rw [(ho t2 b2 hd2 (by omega) n2).1] at hk2
        exact h.sep t1 b1 t2 b2 hd1 hd2 hne k hk1 hk2
theorem MarksOk.kept {base : Nat} {Ds : List Nat} {S : Nat → Prop} (h : MarksOk w base Ds) (hk : Kept w w1 S) (hS : ∀ k, S k → k < w.heap.size → ∃ cs t fr, w.heap[k]? = some (.cells cs t fr)) : MarksOk w1 base Ds := by
  refine ⟨h.1, fun D hD => ⟨(h.2 D hD).1, ?_⟩⟩
  have h1 := (h.2 D hD).2
  refine (hk.2 D (heap_lt h1) fun hs => ?_).trans h1
  obtain ⟨cs, t, fr, e⟩ := hS D hs (heap_lt h1)
  rw [h1] at e; cases e
theorem own_last {w : World} {s0 : Nat} {v : Value} {l : List Int} {x : Int} (h : Own1 3 w s0 v (l ++ [x])) :
    ∃ g c, v = .slice (some ⟨g, 0, none⟩) (l.length + 1) c ∧ l.length + 1 ≤ c ∧ s0 ≤ g ∧ w.cell? ⟨g, l.length, none⟩ = some (.int .i64 x) ∧ Own1 3 w s0 (.slice (some ⟨g, 0, none⟩) l.length c) l := by
  obtain ⟨h0, h1⟩ := h
  rcases h1 with ⟨_, h2⟩ | ⟨g, cap, cur, e, hb, hg, hn, hm, hc, ht⟩
  · simp at h2
  · refine ⟨g, cap, by simpa using e, by simpa using hn, hb, ?_, ?_⟩
    · have hx : (cur.toList.take ((l ++ [x]).length * 1))[l.length]? = some (.int .i64 x) := by rw [ht]; simp [nums, tk]
      rw [List.getElem?_take] at hx
      split at hx
      · have hx' : cur[l.length]? = some (.int .i64 x) := by simpa using hx
        exact (cell_of_row hg hx').1
      · cases hx
    · refine ⟨by simp [nums], .inr ⟨g, cap, cur, rfl, hb, hg, by simp at hn; omega, hm, hc, ?_⟩⟩
      have : cur.toList.take (l.length * 1) = (cur.toList.take ((l ++ [x]).length * 1)).take l.length := by
        rw [List.take_take]; congr 1; simp
      rw [this, ht]; simp [nums]
theorem cut_back {g c l : Nat} (hc : l + 1 ≤ c) :
    ∀ W, (Instr.slice 39 (.slice (some ⟨g, 0, none⟩) (l + 1) c) none (some (.int .i64 (l : Int))) none).run Try.prog W = .ok (.slice (some ⟨g, 0, none⟩) l c) W := by
  have ht : Try.prog.underlying 39 = some (.slice (Try.prog.elem 39)) := by kernel_rfl
  have hs : ∀ W, (sizeOf (Try.prog.elem 39)).run Try.prog W = .ok 1 W := fun W => by
    have h1 : (Try.prog.info? (Try.prog.elem 39)).map (·.size) = some 1 := by kernel_rfl
    obtain ⟨i, hi, hz⟩ := Option.map_eq_some_iff.1 h1
    simp [sizeOf, typeInfo, hi, hz]
  intro W
  rw [run_slice_h (ht := ht) (h0 := by omega) (h2 := by omega), hs W]
  simp [Result.andThen, sliced, Addr.add]
end Go.Proofs.Ythgodpmahdnnjaa
end
section
namespace Go.Proofs.Ythgodpmahdnnjaa
open Go.RowKit Go.Proofs.YthgodpmahdnnjaaW.PrintWords Go.Proofs.YthgodpmahdnnjaaW.PrintMore Go.Proofs.Ythgodpmahdnnjaa.H
set_option maxHeartbeats 8000000 in
set_option maxRecDepth 100000 in
theorem registers_calls (nm : ByteArray) (R : Int) (A2 : Option Addr) (n2 c2 : Nat) (A3 : Option Addr) (n3 c3 : Nat) (i : S62) (h1 : 1 ≤ i.f0) (h2 : i.f0 ≤ 16) (w : World) :
    Calls Try.prog 38 #[.agg #[.string nm, .int .i64 R, .slice A2 n2 c2, .slice A3 n3 c3], .agg #[.int .u8 i.f0, .int .i64 i.f1, .int .i64 i.f2, .int .i64 i.f3, .int .i64 i.f4, .string i.f5]] w
      fun e w' => e = .returned (.bool (insB R i)) ∧ Below w.heap.size w w' := by
  have hins : insB R i = !(insL i).any (outOf R) := by unfold insB; rw [if_neg (by omega), if_neg (by omega)]
  rw [hins]
  obtain ⟨ans, hans⟩ : ∃ ans, ans = !(insL i).any (outOf R) := ⟨_, rfl⟩
  rw [← hans]
  have HANS := Lib.hid hans
  have hU := Lib.hid (refUses_f i h1 h2 20 (Nat.le_refl _))
  have hD := Lib.hid (refDefines_f i h1 h2 20 (Nat.le_refl _))
  have hUL := usesL_len i
  have HI := Lib.hid (show (Try.prog.info? 3).map (fun i => (i.zero, i.size, i.bytes)) = some (some (.int .i64 0), 1, 8) by kernel_rfl)
  obtain ⟨d, hd⟩ : ∃ d, d = (shp i.f0).1 := ⟨_, rfl⟩
  rw [← hd] at hD
  have HDD := Lib.hid hd
  clear hd hans hins
  cases d with
  | true =>
    go_enter Try.func38, Try.ntmps38
    go_upto_region 5 with (first
      | ((with_reducible refine gate_dst (N := 2) rfl ?_); refine box_event ?hg (N := 2) ?hd (cs := #[.string nm, .int .i64 R, .slice A2 n2 c2, .slice A3 n3 c3]) (t := 36) ?hr ?_; (case hd => rfl); (case hg => rfl); (case hr => first | (go_simp; done) | (go_simp; rfl)); intro g hg w3 hbox hbw; have BK := Lib.hid hbox; have HBW := Lib.hid hbw; have HG := Lib.hid hg; clear hbox hbw hg)
      | ((with_reducible refine gate_dst (N := 3) rfl ?_); refine box_event ?hg (N := 3) ?hd (cs := #[.int .u8 i.f0, .int .i64 i.f1, .int .i64 i.f2, .int .i64 i.f3, .int .i64 i.f4, .string i.f5]) (t := 80) ?hr ?_; (case hd => rfl); (case hg => rfl); (case hr => first | (go_simp; done) | (go_simp; rfl)); intro g2 hg2 w4 hbox2 hbw2; obtain ⟨z0, z1, z2, z3, z4, z5⟩ := cells6 hbox2; have HBK := Lib.hid hbox2; have BK4 := Lib.hid (heap_below BK.out hbw2); have HB4 := Lib.hid (HBW.out.trans (hbw2.mono HBW.out.size)); have HG2 := Lib.hid hg2; clear hbox2 hbw2 hg2)
      | (go_at_call 65; refine (ontimeref17_Uses.calls 20 _ _ _ _ _ _ _ _ hU.out).mono ?_; rintro e w5 ⟨v5, rfl, hR5, hb5⟩; obtain ⟨A5, c5, rfl, hl5, hC5⟩ := Kd.R_reads hR5; obtain ⟨y0, y1, y2, y3, y4, y5⟩ := cells6 (heap_below HBK.out hb5); have HB5 := Lib.hid (HB4.out.trans (hb5.mono HB4.out.size)); have BK5 := Lib.hid (heap_below BK4.out hb5); have HC5 := Lib.hid hC5; clear hb5 hC5 hR5)
      | (go_at_call 55; refine (ontimeref17_Defines.calls 20 _ _ _ _ _ _ i.f1 true _ hD.out).mono ?_; rintro e w6 ⟨rfl, hb6⟩; have HB6 := Lib.hid (HB5.out.trans (hb6.mono HB5.out.size)); have BK6 := Lib.hid (heap_below BK5.out hb6); have HC6 := Lib.hid (Kd.C_below HC5.out hb6); have HOE := Lib.hid (World.ownsRow_made (base := w6.heap.size) (e := 3) (size := 1) w6 #[] 0 (Nat.le_refl _) (Nat.zero_le _) rfl); have HRE := Lib.hid (show ReadsInt (w6.alloc (.cells #[] 3)) .i64 A5 (usesL i).length (usesL i) from Kd.reads_of_C (d := (0 : Int)) (Kd.C_below HC6.out ((Below.refl _ w6).alloc (Nat.le_refl _) _))); have hse : w6.heap.size ≤ (w6.alloc (.cells #[] 3)).heap.size := (by simp); clear hb6)
      | (at_builtin; have hx := HO8.out; clear hx; refine print_append_num (w0 := w8) w6.heap.size rfl _ _ 39 3 .i64 8 rfl Try.underlying39 HI.out (by omega) v8 (usesL i) i.f1 rfl rfl HO8.out (Below.refl _ _) HS8.out (by omega) ?_; intro v9 w9 hown9 hb9 hg9 hat9; have HO9 := Lib.hid hown9; have HB9 := Lib.hid hb9; clear hown9 hb9 hg9 hat9)
      | (at_builtin; refine print_append_row (w0 := w6.alloc (.cells #[] 3)) w6.heap.size rfl _ _ 39 3 .i64 8 rfl Try.underlying39 HI.out (by omega) (.slice (some ⟨w6.heap.size, 0, none⟩) 0 0) [] (usesL i) A5 (usesL i).length c5 rfl rfl HOE.out HRE.out (Below.refl _ _) hse (by simp; omega) ?_; intro v8 w8 hown8 hb8 hg8 hat8; have HO8 := Lib.hid (show w8.ownsRow w6.heap.size 3 1 v8 (usesL i).length (nums .i64 (usesL i)) from hown8); have HB8 := Lib.hid (((Below.refl _ w6).alloc (Nat.le_refl _) (.cells #[] 3)).trans hb8); have HS8 := Lib.hid (Nat.le_trans hse hb8.size); clear hown8 hb8 hg8 hat8)
      | fail)
    have hb69 : Below w6.heap.size w6 w9 := HB8.out.trans HB9.out
    have hb09 : Below w.heap.size w w9 := HB6.out.trans (hb69.mono HB6.out.size)
    obtain ⟨A9, c9, rfl, hl9, hC9⟩ := Kd.R_reads (Kd.R_of_own (ok := fun _ => True) HO9.out (fun _ _ => trivial) : (Kd.int .i64).R 3 w9 w6.heap.size (fun _ => True) v9 (usesL i ++ [i.f1]))
    have HC9 := Lib.hid hC9
    have HB09 := Lib.hid hb09
    have HBK9 := Lib.hid (heap_below BK6.out hb69)
    obtain ⟨L, hL⟩ : ∃ L, L = usesL i ++ [i.f1] := ⟨_, rfl⟩
    have HLI := Lib.hid (show L = insL i by rw [hL]; unfold insL; rw [← HDD.out]; simp)
    have hLl : L.length ≤ 10 := by rw [hL]; simp; omega
    rw [← hL] at HC9 hl9 ⊢
    clear hL hC9 hb69 hb09 z0 z1 z2 z3 z4 z5 y0 y1 y2 y3 y4 y5 HB8 HB9 HO8 HO9 HOE HRE HS8 hse
    go_wp2
    go_loopw [8] (fun v wr => ∃ j : Nat, j ≤ L.length ∧ v = .int .i64 j ∧ (L.take j).any (outOf R) = false ∧ Below w9.heap.size w9 wr) (fun v _ => L.length - (intOf v).toNat)
    case atStart => exact ⟨0, Nat.zero_le _, rfl, by simp, Below.refl _ _⟩
    case round =>
      obtain ⟨j, hj, rfl, hany, hbw⟩ := hrel
      obtain ⟨wo, rfl⟩ : ∃ wo, wo = wr := ⟨_, rfl⟩
      have HBo := Lib.hid hbw
      obtain ⟨x0, x1, x2, x3⟩ := cells4 (heap_below HBK9.out hbw)
      clear hbw
      by_cases hjl : j < L.length
      · obtain ⟨a9, rfl, hq9⟩ := at_ints (Kd.C_below HC9.out HBo.out) j hjl
        have hst : (L.take (j + 1)).any (outOf R) = outOf R (L.getD j 0) := by
          rw [List.take_succ_eq_append_getElem hjl, List.any_append, hany, List.getD_eq_getElem?_getD, List.getElem?_eq_getElem hjl]; simp
        have hbad : outOf R (L.getD j 0) = true → L.any (outOf R) = true := fun h => by
          rw [List.any_eq_true]; exact ⟨L.getD j 0, by rw [List.getD_eq_getElem?_getD, List.getElem?_eq_getElem hjl]; simp, h⟩
        obtain ⟨q, hq⟩ : ∃ q, q = L.getD j 0 := ⟨_, rfl⟩
        rw [← hq] at hq9 hst hbad
        have HST := Lib.hid hst
        have HBAD := Lib.hid hbad
        clear hq hst hbad hany
        have hcs : (decide (q < 0) = true ∧ outOf R q = true) ∨ (decide (q < 0) = false ∧ decide (R ≤ q) = true ∧ outOf R q = true) ∨ (decide (q < 0) = false ∧ decide (R ≤ q) = false ∧ outOf R q = false) := by
          unfold outOf
          by_cases e1 : q < 0
          · left; simp [e1]
          · by_cases e2 : R ≤ q
            · right; left; simp [e1, e2]
            · right; right; simp [e1, e2]
        rcases hcs with ⟨d1, hO⟩ | ⟨d1, d2, hO⟩ | ⟨d1, d2, hO⟩
        iterate 2
          · have HF := Lib.hid (show ans = false by rw [HANS.out, ← HLI.out, HBAD.out hO]; rfl)
            clear hO
            go_upto_region 8 with fail
            go_quiet (fail)
            go_wp2
            go_ret
            exact ⟨by rw [HF.out]; rfl, HB09.out.trans ((HBo.out.mono HB09.out.size).trans (pw_below_drewN (Below.refl _ _) _))⟩
        · have HX := Lib.hid (HST.out.trans hO)
          clear hO
          go_upto_region 8 with fail
          go_quiet (fail)
          go_wp2
          go_roundw
          case rel => exact ⟨j + 1, by omega, by go_num, HX.out, HBo.out.trans (pw_below_drewN (Below.refl _ _) _)⟩
          case measure => simp [intOf]; omega
      · have e : j = L.length := by omega
        rw [e, List.take_length] at hany
        have HT := Lib.hid (show ans = true by rw [HANS.out, ← HLI.out, hany]; rfl)
        subst e
        clear hany
        go_wp2
        go_ret
        exact ⟨by rw [HT.out]; rfl, HB09.out.trans (HBo.out.mono HB09.out.size)⟩
  | false =>
    go_enter Try.func38, Try.ntmps38
    go_upto_region 5 with (first
      | ((with_reducible refine gate_dst (N := 2) rfl ?_); refine box_event ?hg (N := 2) ?hd (cs := #[.string nm, .int .i64 R, .slice A2 n2 c2, .slice A3 n3 c3]) (t := 36) ?hr ?_; (case hd => rfl); (case hg => rfl); (case hr => first | (go_simp; done) | (go_simp; rfl)); intro g hg w3 hbox hbw; have BK := Lib.hid hbox; have HBW := Lib.hid hbw; have HG := Lib.hid hg; clear hbox hbw hg)
      | ((with_reducible refine gate_dst (N := 3) rfl ?_); refine box_event ?hg (N := 3) ?hd (cs := #[.int .u8 i.f0, .int .i64 i.f1, .int .i64 i.f2, .int .i64 i.f3, .int .i64 i.f4, .string i.f5]) (t := 80) ?hr ?_; (case hd => rfl); (case hg => rfl); (case hr => first | (go_simp; done) | (go_simp; rfl)); intro g2 hg2 w4 hbox2 hbw2; obtain ⟨z0, z1, z2, z3, z4, z5⟩ := cells6 hbox2; have HBK := Lib.hid hbox2; have BK4 := Lib.hid (heap_below BK.out hbw2); have HB4 := Lib.hid (HBW.out.trans (hbw2.mono HBW.out.size)); have HG2 := Lib.hid hg2; clear hbox2 hbw2 hg2)
      | (go_at_call 65; refine (ontimeref17_Uses.calls 20 _ _ _ _ _ _ _ _ hU.out).mono ?_; rintro e w5 ⟨v5, rfl, hR5, hb5⟩; obtain ⟨A5, c5, rfl, hl5, hC5⟩ := Kd.R_reads hR5; obtain ⟨y0, y1, y2, y3, y4, y5⟩ := cells6 (heap_below HBK.out hb5); have HB5 := Lib.hid (HB4.out.trans (hb5.mono HB4.out.size)); have BK5 := Lib.hid (heap_below BK4.out hb5); have HC5 := Lib.hid hC5; clear hb5 hC5 hR5)
      | (go_at_call 55; refine (ontimeref17_Defines.calls 20 _ _ _ _ _ _ 0 false _ hD.out).mono ?_; rintro e w6 ⟨rfl, hb6⟩; have HB6 := Lib.hid (HB5.out.trans (hb6.mono HB5.out.size)); have BK6 := Lib.hid (heap_below BK5.out hb6); have HC6 := Lib.hid (Kd.C_below HC5.out hb6); clear hb6)
      | fail)
    obtain ⟨w9, hw9⟩ : ∃ w9, w9 = w6 := ⟨_, rfl⟩
    subst hw9
    have HC9 := Lib.hid HC6.out
    have HB09 := Lib.hid HB6.out
    have HBK9 := Lib.hid BK6.out
    obtain ⟨L, hL⟩ : ∃ L, L = usesL i := ⟨_, rfl⟩
    have HLI := Lib.hid (show L = insL i by rw [hL]; unfold insL; rw [← HDD.out]; simp)
    have hLl : L.length ≤ 10 := by rw [hL]; omega
    rw [← hL] at HC9 hl5 ⊢
    clear hL z0 z1 z2 z3 z4 z5 y0 y1 y2 y3 y4 y5 HC6 HC5
    go_wp2
    go_loopw [8] (fun v wr => ∃ j : Nat, j ≤ L.length ∧ v = .int .i64 j ∧ (L.take j).any (outOf R) = false ∧ Below w9.heap.size w9 wr) (fun v _ => L.length - (intOf v).toNat)
    case atStart => exact ⟨0, Nat.zero_le _, rfl, by simp, Below.refl _ _⟩
    case round =>
      obtain ⟨j, hj, rfl, hany, hbw⟩ := hrel
      obtain ⟨wo, rfl⟩ : ∃ wo, wo = wr := ⟨_, rfl⟩
      have HBo := Lib.hid hbw
      obtain ⟨x0, x1, x2, x3⟩ := cells4 (heap_below HBK9.out hbw)
      clear hbw
      by_cases hjl : j < L.length
      · obtain ⟨a9, rfl, hq9⟩ := at_ints (Kd.C_below HC9.out HBo.out) j hjl
        have hst : (L.take (j + 1)).any (outOf R) = outOf R (L.getD j 0) := by
          rw [List.take_succ_eq_append_getElem hjl, List.any_append, hany, List.getD_eq_getElem?_getD, List.getElem?_eq_getElem hjl]; simp
        have hbad : outOf R (L.getD j 0) = true → L.any (outOf R) = true := fun h => by
          rw [List.any_eq_true]; exact ⟨L.getD j 0, by rw [List.getD_eq_getElem?_getD, List.getElem?_eq_getElem hjl]; simp, h⟩
        obtain ⟨q, hq⟩ : ∃ q, q = L.getD j 0 := ⟨_, rfl⟩
        rw [← hq] at hq9 hst hbad
        have HST := Lib.hid hst
        have HBAD := Lib.hid hbad
        clear hq hst hbad hany
        have hcs : (decide (q < 0) = true ∧ outOf R q = true) ∨ (decide (q < 0) = false ∧ decide (R ≤ q) = true ∧ outOf R q = true) ∨ (decide (q < 0) = false ∧ decide (R ≤ q) = false ∧ outOf R q = false) := by
          unfold outOf
          by_cases e1 : q < 0
          · left; simp [e1]
          · by_cases e2 : R ≤ q
            · right; left; simp [e1, e2]
            · right; right; simp [e1, e2]
        rcases hcs with ⟨d1, hO⟩ | ⟨d1, d2, hO⟩ | ⟨d1, d2, hO⟩
        iterate 2
          · have HF := Lib.hid (show ans = false by rw [HANS.out, ← HLI.out, HBAD.out hO]; rfl)
            clear hO
            go_upto_region 8 with fail
            go_quiet (fail)
            go_wp2
            go_ret
            exact ⟨by rw [HF.out]; rfl, HB09.out.trans ((HBo.out.mono HB09.out.size).trans (pw_below_drewN (Below.refl _ _) _))⟩
        · have HX := Lib.hid (HST.out.trans hO)
          clear hO
          go_upto_region 8 with fail
          go_quiet (fail)
          go_wp2
          go_roundw
          case rel => exact ⟨j + 1, by omega, by go_num, HX.out, HBo.out.trans (pw_below_drewN (Below.refl _ _) _)⟩
          case measure => simp [intOf]; omega
      · have e : j = L.length := by omega
        rw [e, List.take_length] at hany
        have HT := Lib.hid (show ans = true by rw [HANS.out, ← HLI.out, hany]; rfl)
        subst e
        clear hany
        go_wp2
        go_ret
        exact ⟨by rw [HT.out]; rfl, HB09.out.trans (HBo.out.mono HB09.out.size)⟩
end Go.Proofs.Ythgodpmahdnnjaa
end
section
namespace Go.Proofs.Ythgodpmahdnnjaa
open Go.RowKit Go.Proofs.YthgodpmahdnnjaaW.PrintWords Go.Proofs.YthgodpmahdnnjaaW.PrintMore Go.Proofs.Ythgodpmahdnnjaa.H
theorem map_getD {α β : Type} (f : α → β) (l : List α) {i : Nat} (h : i < l.length) (z : α) (z' : β) : (l.map f).getD i z' = f (l.getD i z) := by
  simp [List.getD_eq_getElem?_getD, h]
set_option maxHeartbeats 8000000 in
set_option maxRecDepth 100000 in
theorem Form_calls (nm : ByteArray) (R : Int) (A2 : Option Addr) (n2 c2 : Nat) (A3 : Option Addr) (c3 : Nat) (B : List S43) (w : World) (hC3 : k79.C w A3 B.length (B.map refB)) (hn : B.length ≤ 1000) (hcode : ∀ x ∈ B, x.f0.length ≤ 1000) :
    Calls Try.prog 12 #[.agg #[.string nm, .int .i64 R, .slice A2 n2 c2, .slice A3 B.length c3]] w fun e w' => e = .returned (.bool (wfB R B)) ∧ Below w.heap.size w w' := by
  obtain ⟨ans, hans⟩ : ∃ ans, ans = wfB R B := ⟨_, rfl⟩
  rw [← hans]
  have HANS := Lib.hid hans
  have HC3 := Lib.hid hC3
  have HCO := Lib.hid hcode
  clear hC3 hcode hans
  have hcs : (((B.length : Int) == 0) = true ∧ ans = false) ∨ (((B.length : Int) == 0) = false ∧ decide (R < 0) = true ∧ ans = false) ∨ (((B.length : Int) == 0) = false ∧ decide (R < 0) = false ∧ decide (10000 < R) = true ∧ ans = false) ∨
      (((B.length : Int) == 0) = false ∧ decide (R < 0) = false ∧ decide (10000 < R) = false ∧ ans = B.all (blkB R B.length)) := by
    rw [HANS.out]
    unfold wfB
    by_cases h0 : B.length = 0
    · left; simp [h0]
    · have b0 : ((B.length : Int) == 0) = false := by simpa using h0
      have c0 : (B.length != 0) = true := by simpa using h0
      by_cases h1 : R < 0
      · right; left; simp [b0, h1]; intro _ h; omega
      · by_cases h2 : 10000 < R
        · right; right; left; refine ⟨b0, decide_eq_false h1, decide_eq_true h2, ?_⟩
          rw [decide_eq_false (show ¬ R ≤ 10000 by omega)]; simp
        · right; right; right; refine ⟨b0, decide_eq_false h1, decide_eq_false h2, ?_⟩
          rw [c0, decide_eq_true (show 0 ≤ R by omega), decide_eq_true (show R ≤ 10000 by omega)]; simp
  rcases hcs with ⟨b0, rfl⟩ | ⟨b0, b1, rfl⟩ | ⟨b0, b1, b2, rfl⟩ | ⟨b0, b1, b2, hall⟩
  iterate 3
    · go_enter Try.func12, Try.ntmps12
      go_wp2_with (first
        | ((with_reducible refine gate_dst (N := 1) rfl ?_); refine box_event ?hg (N := 1) ?hd (cs := #[.string nm, .int .i64 R, .slice A2 n2 c2, .slice A3 B.length c3]) (t := 36) ?hr ?_; (case hd => rfl); (case hg => rfl); (case hr => first | (go_simp; done) | (go_simp; rfl)); intro g hg w3 hbox hbw; obtain ⟨z0, z1, z2, z3⟩ := cells4 hbox; have HBW := Lib.hid hbw; clear hbox hbw; have HG := Lib.hid hg; clear hg)
        | fail)
      go_ret
      exact ⟨by simp, HBW.out⟩
  · have HALL := Lib.hid hall
    clear hall
    go_enter Try.func12, Try.ntmps12
    go_wp2_with (first
      | ((with_reducible refine gate_dst (N := 1) rfl ?_); refine box_event ?hg (N := 1) ?hd (cs := #[.string nm, .int .i64 R, .slice A2 n2 c2, .slice A3 B.length c3]) (t := 36) ?hr ?_; (case hd => rfl); (case hg => rfl); (case hr => first | (go_simp; done) | (go_simp; rfl)); intro g hg w3 hbox hbw; obtain ⟨z0, z1, z2, z3⟩ := cells4 hbox; have BK := Lib.hid hbox; have HBW := Lib.hid hbw; clear hbox hbw; have HG := Lib.hid hg; clear hg)
      | fail)
    clear z0 z1 z2 z3 b0 b1 b2 HG
    go_loopw [3] (fun v wr => ∃ i : Nat, i ≤ B.length ∧ v = .int .i64 i ∧ (B.take i).all (blkB R B.length) = true ∧ wr.heap[g]? = some (.cells #[.string nm, .int .i64 R, .slice A2 n2 c2, .slice A3 B.length c3] 36 (0, 0)) ∧ Below w.heap.size w wr) (fun v _ => B.length - (intOf v).toNat)
    case atStart => exact ⟨0, Nat.zero_le _, rfl, by simp, BK.out, HBW.out⟩
    case round =>
      clear BK HBW
      obtain ⟨i, hi, rfl, hall, hbk, hb⟩ := hrel
      obtain ⟨wo, rfl⟩ : ∃ wo, wo = wr := ⟨_, rfl⟩
      obtain ⟨z0, z1, z2, z3⟩ := cells4 hbk
      by_cases hlt : i < B.length
      · obtain ⟨ad, A0, c0, hA3, q0, q1, q2, q3, q4, hl0, hC0⟩ := at_T79 (Kd.C_below HC3.out hb) (i : Int) (by omega) (by omega)
        subst hA3
        rw [Int.toNat_natCast] at q0 q1 q2 q3 q4
        have hrd : rd_T79 (B.map refB) (i : Int) = refB (B.getD i z43) := by unfold rd_T79; rw [Int.toNat_natCast]; exact map_getD refB B hlt _ _
        rw [hrd] at q0 q1 q2 q3 q4 hl0 hC0
        have hmem := memB hlt
        have hstep : (B.take (i + 1)).all (blkB R B.length) = blkB R B.length (B.getD i z43) := by
          rw [List.take_succ_eq_append_getElem hlt, List.all_append, hall, List.getD_eq_getElem?_getD, List.getElem?_eq_getElem hlt]; simp
        have hno : blkB R B.length (B.getD i z43) = false → B.all (blkB R B.length) = false := fun h => by
          rw [List.all_eq_false]; exact ⟨_, hmem, by rw [h]; simp⟩
        obtain ⟨x, hx⟩ : ∃ x, x = B.getD i z43 := ⟨_, rfl⟩
        rw [← hx] at q0 q1 q2 q3 q4 hl0 hC0 hstep hno hmem
        have hcl := HCO.out x hmem
        have hrl : (refB x).f0.length = x.f0.length := by unfold refB; simp
        rw [hrl] at q0 hl0 hC0
        have q1' : wo.cell? ⟨(ad.add (i * 5)).block, (ad.add (i * 5)).off + 1, none⟩ = some (.int .u8 x.f1) := q1
        have q2' : wo.cell? ⟨(ad.add (i * 5)).block, (ad.add (i * 5)).off + 2, none⟩ = some (.int .i64 x.f2) := q2
        have q3' : wo.cell? ⟨(ad.add (i * 5)).block, (ad.add (i * 5)).off + 3, none⟩ = some (.int .i64 x.f3) := q3
        have q4' : wo.cell? ⟨(ad.add (i * 5)).block, (ad.add (i * 5)).off + 4, none⟩ = some (.int .i64 x.f4) := q4
        have HC0 := Lib.hid (show k80.C wo A0 x.f0.length (x.f0.map refI) from hC0)
        have HST := Lib.hid hstep
        have HNO := Lib.hid hno
        have HBK := Lib.hid hbk
        have HB := Lib.hid hb
        clear hC0 hstep hno hbk hb hrd hx hmem hall q1 q2 q3 q4 hrl
        go_upto_region 7 with (first
          | ((with_reducible refine gate_dst (N := 4) rfl ?_); refine box_event ?hg (N := 4) ?hd (cs := #[.slice none 0 0, .int .u8 0, .int .i64 0, .int .i64 0, .int .i64 0]) (t := 79) ?hr ?_; (case hd => rfl); (case hg => rfl); (case hr => first | (go_simp; done) | (go_simp; rfl)); intro g4 hg4 w4 hbox4 hbw4; obtain ⟨y0, y1, y2, y3, y4⟩ := cells5 hbox4; have f0 := blk_frozen hbox4 0; have f1 := blk_frozen hbox4 1; have f2 := blk_frozen hbox4 2; have f3 := blk_frozen hbox4 3; have f4 := blk_frozen hbox4 4; have BK4 := Lib.hid hbox4; have HBW4 := Lib.hid hbw4; have HG4 := Lib.hid hg4; clear hbox4 hbw4 hg4)
          | fail)
        have hg4l : wo.heap.size ≤ g4 := by rw [HG4.out]; exact Nat.le_refl _
        obtain ⟨w6, hw6⟩ : ∃ w6, w6 = (((((w4.setCell ⟨g4, 0, none⟩ (.slice A0 x.f0.length c0)).setCell ⟨g4, 1, none⟩ (.int .u8 x.f1)).setCell ⟨g4, 2, none⟩ (.int .i64 x.f2)).setCell ⟨g4, 3, none⟩ (.int .i64 x.f3)).setCell ⟨g4, 4, none⟩ (.int .i64 x.f4)) := ⟨_, rfl⟩
        have hb46 : Below wo.heap.size wo w6 := by
          rw [hw6]
          exact ((((HBW4.out.setCell (p := ⟨g4, 0, none⟩) hg4l _).setCell (p := ⟨g4, 1, none⟩) hg4l _).setCell (p := ⟨g4, 2, none⟩) hg4l _).setCell (p := ⟨g4, 3, none⟩) hg4l _).setCell (p := ⟨g4, 4, none⟩) hg4l _
        have hk6 : w6.heap[g4]? = some (.cells #[.slice A0 x.f0.length c0, .int .u8 x.f1, .int .i64 x.f2, .int .i64 x.f3, .int .i64 x.f4] 79 (0, 0)) := by rw [hw6]; exact blk_five BK4.out _ _ _ _ _
        rw [← hw6]
        have HB46 := Lib.hid hb46
        have HBK6 := Lib.hid (heap_below HBK.out hb46)
        have HK6 := Lib.hid hk6
        have HC6 := Lib.hid (Kd.C_below HC0.out hb46)
        have HB6 := Lib.hid (HB.out.trans (hb46.mono HB.out.size))
        clear hw6 hb46 hk6 HG4 y0 y1 y2 y3 y4 f0 f1 f2 f3 f4 q0 q1' q2' q3' q4' hg4l BK4 HBW4 z0 z1 z2 z3 HBK HC0 HB46
        go_wp2
        go_loopw [5] (fun v wq => ∃ k : Nat, k ≤ x.f0.length ∧ v = .int .i64 k ∧ (x.f0.take k).all (insB R) = true ∧ Below w6.heap.size w6 wq) (fun v _ => x.f0.length - (intOf v).toNat)
        case atStart => exact ⟨0, Nat.zero_le _, rfl, by simp, Below.refl _ _⟩
        case round =>
          obtain ⟨k, hk, rfl, hka, hkw⟩ := hrel
          obtain ⟨wq, rfl⟩ : ∃ wq, wq = wr := ⟨_, rfl⟩
          obtain ⟨r0, r1, r2, r3, r4⟩ := cells5 (heap_below HK6.out hkw)
          obtain ⟨p0, p1, p2, p3⟩ := cells4 (heap_below HBK6.out hkw)
          by_cases hkl : k < x.f0.length
          · have hlm : (x.f0.map refI).length = x.f0.length := List.length_map ..
            obtain ⟨ax, hA0, i0, i1, i2, i3, i4, i5⟩ := at_T80 (Kd.C_below (hlm.symm ▸ HC6.out : k80.C w6 A0 (x.f0.map refI).length (x.f0.map refI)) hkw) (k : Int) (by omega) (by omega)
            subst hA0
            rw [Int.toNat_natCast] at i0 i1 i2 i3 i4 i5
            have hrd : rd_T80 (x.f0.map refI) (k : Int) = refI (x.f0.getD k z62) := by unfold rd_T80; rw [Int.toNat_natCast]; exact map_getD refI x.f0 hkl _ _
            rw [hrd] at i0 i1 i2 i3 i4 i5
            have hst : (x.f0.take (k + 1)).all (insB R) = insB R (x.f0.getD k z62) := by
              rw [List.take_succ_eq_append_getElem hkl, List.all_append, hka, List.getD_eq_getElem?_getD, List.getElem?_eq_getElem hkl]; simp
            have hbad : insB R (x.f0.getD k z62) = false → x.f0.all (insB R) = false := fun h => by
              rw [List.all_eq_false]; exact ⟨x.f0.getD k z62, memI hkl, by rw [h]; simp⟩
            obtain ⟨y, hy⟩ : ∃ y, y = x.f0.getD k z62 := ⟨_, rfl⟩
            rw [← hy] at i0 i1 i2 i3 i4 i5 hst hbad
            have i0' : wq.cell? (ax.add (k * 6)) = some (.int .u8 y.f0) := i0
            have i1' : wq.cell? ⟨(ax.add (k * 6)).block, (ax.add (k * 6)).off + 1, none⟩ = some (.int .i64 y.f1) := i1
            have i2' : wq.cell? ⟨(ax.add (k * 6)).block, (ax.add (k * 6)).off + 2, none⟩ = some (.int .i64 y.f2) := i2
            have i3' : wq.cell? ⟨(ax.add (k * 6)).block, (ax.add (k * 6)).off + 3, none⟩ = some (.int .i64 y.f3) := i3
            have i4' : wq.cell? ⟨(ax.add (k * 6)).block, (ax.add (k * 6)).off + 4, none⟩ = some (.int .i64 y.f4) := i4
            have i5' : wq.cell? ⟨(ax.add (k * 6)).block, (ax.add (k * 6)).off + 5, none⟩ = some (.string y.f5) := i5
            have HS := Lib.hid hst
            have HBAD := Lib.hid hbad
            have HKW := Lib.hid hkw
            clear hy hst hbad hka hrd hkw i0 i1 i2 i3 i4 i5
            have hop : (decide (y.f0 < 1) = true ∧ insB R y = false) ∨ (decide (y.f0 < 1) = false ∧ decide (16 < y.f0) = true ∧ insB R y = false) ∨ (decide (y.f0 < 1) = false ∧ decide (16 < y.f0) = false ∧ insB R y = true) ∨ (decide (y.f0 < 1) = false ∧ decide (16 < y.f0) = false ∧ insB R y = false) := by
              by_cases e1 : y.f0 < 1
              · left; exact ⟨decide_eq_true e1, by unfold insB; rw [if_pos e1]⟩
              · by_cases e2 : 16 < y.f0
                · right; left; exact ⟨decide_eq_false e1, decide_eq_true e2, by unfold insB; rw [if_neg e1, if_pos e2]⟩
                · right; right
                  cases insB R y
                  · right; exact ⟨decide_eq_false e1, decide_eq_false e2, rfl⟩
                  · left; exact ⟨decide_eq_false e1, decide_eq_false e2, rfl⟩
            rcases hop with ⟨b1, hI⟩ | ⟨b1, b2, hI⟩ | ⟨b1, b2, hI⟩ | ⟨b1, b2, hI⟩
            iterate 2
              · have HF := Lib.hid (HNO.out (by unfold blkB; rw [HBAD.out hI, Bool.and_false]))
                clear hI
                go_upto_region 10 with fail
                go_quiet (fail)
                go_wp2
                go_ret
                exact ⟨by rw [HALL.out, HF.out]; rfl, HB6.out.trans ((HKW.out.mono HB6.out.size).trans (pw_below_drewN (Below.refl _ _) _))⟩
            · have HX := Lib.hid (HS.out.trans hI)
              have HI := Lib.hid hI
              clear hI
              go_upto_region 10 with fail
              go_still_tail 23, (by kernel_rfl)
              change wpList _ _ _ _ _ wq.drew
              go_wp2_with (first | (go_at_call 38; refine (registers_calls nm R A2 n2 c2 (some ad) B.length c3 y (by have := of_decide_eq_false b1; omega) (by have := of_decide_eq_false b2; omega) _).mono ?_; rw [HI.out]; rintro e w10 ⟨rfl, hb10⟩; have HB10 := Lib.hid hb10; clear hb10) | fail)
              go_roundw
              case rel => exact ⟨k + 1, by omega, by go_num, HX.out, HKW.out.trans (((Below.refl wq.heap.size wq).drew.trans HB10.out).mono HKW.out.size)⟩
              case measure => simp [intOf]; omega
            · have HF := Lib.hid (HNO.out (by unfold blkB; rw [HBAD.out hI, Bool.and_false]))
              have HI := Lib.hid hI
              clear hI
              go_upto_region 10 with fail
              go_still_tail 23, (by kernel_rfl)
              change wpList _ _ _ _ _ wq.drew
              go_wp2_with (first | (go_at_call 38; refine (registers_calls nm R A2 n2 c2 (some ad) B.length c3 y (by have := of_decide_eq_false b1; omega) (by have := of_decide_eq_false b2; omega) _).mono ?_; rw [HI.out]; rintro e w10 ⟨rfl, hb10⟩; have HB10 := Lib.hid hb10; clear hb10) | fail)
              go_ret
              exact ⟨by rw [HALL.out, HF.out]; rfl, HB6.out.trans ((HKW.out.trans (((Below.refl wq.heap.size wq).drew.trans HB10.out).mono HKW.out.size)).mono HB6.out.size)⟩
          · have e : k = x.f0.length := by omega
            rw [e, List.take_length] at hka
            have HKA := Lib.hid hka
            have HKW := Lib.hid hkw
            subst e
            clear hka hkw
            have hends : (decide (x.f1 < 1) = true ∧ endB R x = false) ∨ (decide (x.f1 < 1) = false ∧ decide (3 < x.f1) = true ∧ endB R x = false) ∨
                (decide (x.f1 < 1) = false ∧ decide (3 < x.f1) = false ∧ (x.f1 == 2) = true ∧ decide (x.f2 < 0) = true ∧ endB R x = false) ∨
                (decide (x.f1 < 1) = false ∧ decide (3 < x.f1) = false ∧ (x.f1 == 2) = true ∧ decide (x.f2 < 0) = false ∧ decide (R ≤ x.f2) = true ∧ endB R x = false) ∨
                (decide (x.f1 < 1) = false ∧ decide (3 < x.f1) = false ∧ (x.f1 == 2) = true ∧ decide (x.f2 < 0) = false ∧ decide (R ≤ x.f2) = false ∧ endB R x = true) ∨
                (decide (x.f1 < 1) = false ∧ decide (3 < x.f1) = false ∧ (x.f1 == 2) = false ∧ endB R x = true) := by
              unfold endB
              by_cases e1 : x.f1 < 1
              · left; simp [e1, show ¬ 1 ≤ x.f1 by omega]
              · by_cases e2 : 3 < x.f1
                · right; left; simp [e1, e2, show ¬ x.f1 ≤ 3 by omega]
                · by_cases e3 : x.f1 = 2
                  · by_cases e4 : x.f2 < 0
                    · right; right; left; simp [e3, e4, show ¬ 0 ≤ x.f2 by omega]
                    · by_cases e5 : R ≤ x.f2
                      · right; right; right; left; simp [e3, e4, e5, show ¬ x.f2 < R by omega]
                      · right; right; right; right; left; simp [e3, e4, e5, show 0 ≤ x.f2 by omega, show x.f2 < R by omega]
                  · right; right; right; right; right; simp [e1, e2, e3, show 1 ≤ x.f1 by omega, show x.f1 ≤ 3 by omega]
            rcases hends with ⟨b1, hE⟩ | ⟨b1, b2, hE⟩ | ⟨b1, b2, b3, b4, hE⟩ | ⟨b1, b2, b3, b4, b5, hE⟩ | ⟨b1, b2, b3, b4, b5, hE⟩ | ⟨b1, b2, b3, hE⟩
            iterate 4
              · have HF := Lib.hid (HNO.out (by unfold blkB; rw [hE]; rfl))
                clear hE
                go_wp2
                go_ret
                exact ⟨by rw [HALL.out, HF.out]; rfl, HB6.out.trans (HKW.out.mono HB6.out.size)⟩
            all_goals
              have HE := Lib.hid hE
              have HSU := Lib.hid (show ontimeref17_Succ.f 1 (x.f0.map refI) x.f1 x.f2 x.f3 x.f4 = some (succL x) from refSucc_f x 1 (Nat.le_refl _))
              have hl0' : (x.f0.map refI).length ≤ c0 := by rw [List.length_map]; exact hl0
              have HCQ := Lib.hid (show k80.C wq A0 (x.f0.map refI).length (x.f0.map refI) by rw [List.length_map]; exact Kd.C_below HC6.out HKW.out)
              have hsc := ontimeref17_Succ.calls 1 A0 c0 (x.f0.map refI) x.f1 x.f2 x.f3 x.f4 _ wq HCQ.out hl0' HSU.out
              rw [List.length_map] at hsc
              have HSC := Lib.hid hsc
              clear hE hsc
              go_wp2_with (first
                | (go_at_call 39; refine HSC.out.mono ?_; rintro e w7 ⟨v7, rfl, hR7, hb7⟩; obtain ⟨A7, c7, rfl, hl7, hC7⟩ := Kd.R_reads hR7; have HC7 := Lib.hid hC7; have HB7 := Lib.hid hb7; clear hR7 hC7 hb7)
                | fail)
              have hb67 : Below w6.heap.size w6 w7 := HKW.out.trans (HB7.out.mono HKW.out.size)
              have hbk7 := heap_below HBK6.out hb67
              have hb07 : Below w.heap.size w w7 := HB6.out.trans (hb67.mono HB6.out.size)
              obtain ⟨p0', p1', p2', p3'⟩ := cells4 hbk7
              have HBK7 := Lib.hid hbk7
              have HB07 := Lib.hid hb07
              have hLl := succL_len x
              obtain ⟨L, hL⟩ : ∃ L, L = succL x := ⟨_, rfl⟩
              rw [← hL] at HC7 hl7 hLl ⊢
              have HL := Lib.hid hL
              clear hbk7 hb67 hb07 hL HSU HSC HCQ b1 b2 b3 hl0' r0 r1 r2 r3 r4 p0 p1 p2 p3
              try clear b4
              try clear b5
              go_loopw [7] (fun v wr' => ∃ j : Nat, j ≤ L.length ∧ v = .int .i64 j ∧ (L.take j).all (inB B.length) = true ∧ Below w7.heap.size w7 wr') (fun v _ => L.length - (intOf v).toNat)
              case atStart => exact ⟨0, Nat.zero_le _, rfl, by simp, Below.refl _ _⟩
              case round =>
                obtain ⟨j, hj, rfl, hLa, hjw⟩ := hrel
                obtain ⟨wj, rfl⟩ : ∃ wj, wj = wr := ⟨_, rfl⟩
                obtain ⟨z0, z1, z2, z3⟩ := cells4 (heap_below HBK7.out hjw)
                clear p0' p1' p2' p3'
                by_cases hjl : j < L.length
                · obtain ⟨a7, rfl, hq7⟩ := at_ints (Kd.C_below HC7.out hjw) j hjl
                  have hst : (L.take (j + 1)).all (inB B.length) = inB B.length (L.getD j 0) := by
                    rw [List.take_succ_eq_append_getElem hjl, List.all_append, hLa, List.getD_eq_getElem?_getD, List.getElem?_eq_getElem hjl]; simp
                  have hbad : inB B.length (L.getD j 0) = false → L.all (inB B.length) = false := fun h => by
                    rw [List.all_eq_false]; exact ⟨L.getD j 0, by rw [List.getD_eq_getElem?_getD, List.getElem?_eq_getElem hjl]; simp, by rw [h]; simp⟩
                  obtain ⟨q, hq⟩ : ∃ q, q = L.getD j 0 := ⟨_, rfl⟩
                  rw [← hq] at hq7 hst hbad
                  have HS := Lib.hid hst
                  have HBAD := Lib.hid hbad
                  have HJW := Lib.hid hjw
                  clear hq hst hbad hLa hjw
                  have hcs : (decide (q < 0) = true ∧ inB B.length q = false) ∨ (decide (q < 0) = false ∧ decide ((B.length : Int) ≤ q) = true ∧ inB B.length q = false) ∨ (decide (q < 0) = false ∧ decide ((B.length : Int) ≤ q) = false ∧ inB B.length q = true) := by
                    unfold inB
                    by_cases e1 : q < 0
                    · left; simp [e1, show ¬ 0 ≤ q by omega]
                    · by_cases e2 : (B.length : Int) ≤ q
                      · right; left; simp [e1, e2, show ¬ q < (B.length : Int) by omega]
                      · right; right; simp [e1, e2, show 0 ≤ q by omega, show q < (B.length : Int) by omega]
                  rcases hcs with ⟨d1, hI⟩ | ⟨d1, d2, hI⟩ | ⟨d1, d2, hI⟩
                  iterate 2
                    · have HF := Lib.hid (HNO.out (by unfold blkB; rw [← HL.out, HBAD.out hI, Bool.and_false]; rfl))
                      clear hI
                      go_upto_region 18 with fail
                      go_quiet (fail)
                      go_wp2
                      go_ret
                      exact ⟨by rw [HALL.out, HF.out]; rfl, HB07.out.trans ((HJW.out.mono HB07.out.size).trans (pw_below_drewN (Below.refl _ _) _))⟩
                  · have HX := Lib.hid (HS.out.trans hI)
                    clear hI
                    go_upto_region 18 with fail
                    go_quiet (fail)
                    go_wp2
                    go_roundw
                    case rel => exact ⟨j + 1, by omega, by go_num, HX.out, HJW.out.trans (pw_below_drewN (Below.refl _ _) _)⟩
                    case measure => simp [intOf]; omega
                · have e : j = L.length := by omega
                  subst e
                  rw [List.take_length] at hLa
                  have HX := Lib.hid (HST.out.trans (show blkB R B.length x = true by unfold blkB; rw [HE.out, ← HL.out, hLa, HKA.out]; rfl))
                  have HJW := Lib.hid hjw
                  clear hLa hjw
                  go_wp2
                  go_roundw
                  case rel => exact ⟨i + 1, by omega, by go_num, HX.out, heap_below HBK7.out HJW.out, HB07.out.trans (HJW.out.mono HB07.out.size)⟩
                  case measure => simp [intOf]; omega
      · have e : i = B.length := by omega
        rw [e, List.take_length] at hall
        have HA := Lib.hid (show ans = true by rw [HALL.out, hall])
        have HB := Lib.hid hb
        subst e
        clear hall hb hbk
        go_wp2
        go_ret
        exact ⟨by rw [HA.out]; rfl, HB.out⟩
end Go.Proofs.Ythgodpmahdnnjaa
end
section
namespace Go.Proofs.Ythgodpmahdnnjaa
open Go.RowKit Go.Shelf Go.Proofs.YthgodpmahdnnjaaW.PrintWords Go.Proofs.YthgodpmahdnnjaaW.PrintMore Go.Proofs.Ythgodpmahdnnjaa.H
attribute [local go_sem] Oper.semAt_some
def backL (code : List S62) (k : Nat) : List (Int × S62) := (List.range k).map fun j => (((code.length - 1 - j : Nat) : Int), code.getD (code.length - 1 - j) z62)
theorem backL_succ (code : List S62) (k : Nat) : backL code (k + 1) = backL code k ++ [(((code.length - 1 - k : Nat) : Int), code.getD (code.length - 1 - k) z62)] := by simp [backL, List.range_succ]
theorem backL_length (code : List S62) (k : Nat) : (backL code k).length = k := by simp [backL]
def encB (x : Int × S62) : Array Value := #[.int .i64 x.1, .agg #[.int .u8 x.2.f0, .int .i64 x.2.f1, .int .i64 x.2.f2, .int .i64 x.2.f3, .int .i64 x.2.f4, .string x.2.f5]]
def KeepB (n₀ Bs : Nat) (W W' : World) : Prop := Below n₀ W W' ∧ W'.heap[Bs]? = W.heap[Bs]?
theorem KeepB.trans {n₀ Bs : Nat} {A B C : World} (h : KeepB n₀ Bs A B) (k : KeepB n₀ Bs B C) : KeepB n₀ Bs A C := ⟨h.1.trans k.1, k.2.trans h.2⟩
set_option maxRecDepth 100000 in
set_option maxHeartbeats 4000000 in
theorem back1_in (F : Fence) (n : Nat) (hF : F.fn 67) (hro : F.round = none) (hn : 1 ≤ n) (l Bs : Nat) (w0 : World) (A0 : Option Addr) (c0 : Nat) (code : List S62) (hC : k62.C w0 A0 code.length code) (hlen : code.length ≤ 1000) (J Jx : List (Int × S62) → World → Prop)
    (hY : ∀ pre x W, J pre W → pre.length < code.length → (∃ p, p < code.length ∧ x = ((p : Int), code.getD p z62)) → YieldAt F (n - 1) Try.prog l (encB x) W fun e W' =>
      (e = .returned (.bool true) ∧ J (pre ++ [x]) W' ∧ KeepB w0.heap.size Bs W W') ∨ (e = .returned (.bool false) ∧ Jx (pre ++ [x]) W'))
    (W : World) (hbW : Below w0.heap.size w0 W) (hBs : W.heap[Bs]? = some (.cells #[.slice A0 code.length c0] 41 (0, 0))) (h0 : J [] W) :
    CallsIn F n Try.prog 67 #[.func (.yield l) #[] #[], .pointer (some ⟨Bs, 0, none⟩)] W fun e W' => (∃ v, e = .returned v) ∧
      ((∃ ys, ys = backL code code.length ∧ J ys W') ∨ (∃ pre, (∃ k, k ≤ code.length ∧ pre = backL code k) ∧ Jx pre W')) := by
  refine callsIn_of_wp Try.func67 rfl hF ?_ hro
  simp only [Try.ntmps67, List.size_toArray, List.length_cons, List.length_nil, Nat.reduceAdd, Nat.reduceSub, Array.replicate_succ, Array.replicate_zero, List.push_toArray, List.append_toArray, List.nil_append, List.cons_append]
  have hz : W.cell? ⟨Bs, 0, none⟩ = some (.slice A0 code.length c0) := (blk_cell hBs 0).trans rfl
  gi_wp2
  gi_loopw [3] (fun i wr => ∃ k : Nat, k ≤ code.length ∧ i = .int .i64 ((code.length : Int) - 1 - k) ∧ J (backL code k) wr ∧ KeepB w0.heap.size Bs W wr)
    (fun i _ => (intOf i + 1).toNat)
  case atStart => exact ⟨0, Nat.zero_le _, by simp, h0, ⟨Below.refl _ _, rfl⟩⟩
  case round =>
    obtain ⟨k, hk, rfl, hJs, hkp⟩ := hrel
    have hz1 : wr.cell? ⟨Bs, 0, none⟩ = some (.slice A0 code.length c0) := (blk_cell (hkp.2.trans hBs) 0).trans rfl
    by_cases hlt : k < code.length
    · obtain ⟨p, hp⟩ : ∃ p : Nat, (code.length : Int) - 1 - k = (p : Int) := ⟨code.length - 1 - k, by omega⟩
      have hpn : code.length - 1 - k = p := by omega
      rw [hp]
      have hpl : p < code.length := by omega
      have b1 : decide (0 ≤ (p : Int)) = true := decide_eq_true (by omega)
      obtain ⟨ax, hA0, i0, i1, i2, i3, i4, i5⟩ := at_T62 (Kd.C_below hC (hbW.trans hkp.1)) (p : Int) (by omega) (by omega)
      subst hA0
      rw [Int.toNat_natCast] at i0 i1 i2 i3 i4 i5
      have hrd : rd_T62 code (p : Int) = code.getD p z62 := by unfold rd_T62; rw [Int.toNat_natCast]
      rw [hrd] at i0 i1 i2 i3 i4 i5
      obtain ⟨fn, tmps, assign, body, hy, hR⟩ := hY _ ((p : Int), code.getD p z62) wr hJs (by rw [backL_length]; exact hlt) ⟨p, hpl, rfl⟩
      have hsuc : backL code (k + 1) = backL code k ++ [((p : Int), code.getD p z62)] := by rw [backL_succ, hpn]
      unfold encB at hy
      dsimp only at hy
      obtain ⟨y, hyy⟩ : ∃ y, y = code.getD p z62 := ⟨_, rfl⟩
      rw [← hyy] at i0 i1 i2 i3 i4 i5 hy hR hsuc
      clear hyy hrd hp
      gi_wp2
      refine hR.mono ?_
      clear hR hy
      rintro e W3 (⟨rfl, hJ3, hk3⟩ | ⟨rfl, hJx3⟩)
      · have HK := Lib.hid (hkp.trans hk3)
        rw [← hsuc] at hJ3
        clear hkp hk3 hsuc i0 i1 i2 i3 i4 i5
        gi_wp2
        go_roundw
        case rel => exact ⟨k + 1, by omega, by rw [show (code.length : Int) - 1 - ((k + 1 : Nat) : Int) = (p : Int) - 1 by omega], hJ3, HK.out⟩
        case measure => simp [intOf]
      · rw [← hsuc] at hJx3
        clear hkp hsuc i0 i1 i2 i3 i4 i5
        gi_wp2
        refine bodyPost_ret (results_none rfl _ _ _) rfl ?_
        exact ⟨⟨_, rfl⟩, .inr ⟨_, ⟨k + 1, by omega, rfl⟩, hJx3⟩⟩
    · have e : k = code.length := by omega
      subst e
      have b1 : decide (0 ≤ (code.length : Int) - 1 - (code.length : Int)) = false := decide_eq_false (by omega)
      gi_wp2
      go_end0
      exact ⟨⟨_, rfl⟩, .inl ⟨_, rfl, hJs⟩⟩
abbrev BackE (code : List S62) := { x : Int × S62 // ∃ p, p < code.length ∧ x = ((p : Int), code.getD p z62) }
theorem back_stops (F : Fence) (n : Nat) (hF : F.fn 67) (hro : F.round = none) (hn : 1 ≤ n) (Bs : Nat) (w0 : World) (A0 : Option Addr) (c0 : Nat) (code : List S62) (hC : k62.C w0 A0 code.length code) (hlen : code.length ≤ 1000)
    (w : World) (hbw : Below w0.heap.size w0 w) (hBs : w.heap[Bs]? = some (.cells #[.slice A0 code.length c0] 41 (0, 0))) :
    SeqStopsK F n Try.prog 67 #[.pointer (some ⟨Bs, 0, none⟩)] (fun x : BackE code => encB x.1) (KeepB w0.heap.size Bs) (fun ys => ys.map (·.1) = backL code code.length) (fun pre => ∃ k, k ≤ code.length ∧ pre.map (·.1) = backL code k) code.length w := fun l J Jx W hW _ _ hY h0 => by
  refine (back1_in F n hF hro hn l Bs w0 A0 c0 code hC hlen (fun pre W => ∃ pre' : List (BackE code), pre'.map (·.1) = pre ∧ J pre' W) (fun pre W => ∃ pre' : List (BackE code), pre'.map (·.1) = pre ∧ Jx pre' W) ?_ W (hbw.trans (hW.mono hbw.size)) (heap_below hBs hW) ⟨[], rfl, h0⟩).mono ?_
  · rintro pre x W ⟨pre', rfl, hJ⟩ hlt hx
    refine (hY pre' ⟨x, hx⟩ W hJ (by simpa using hlt)).mono ?_
    rintro e W' (⟨h1, h2, h3⟩ | ⟨h1, h2⟩)
    · exact .inl ⟨h1, ⟨_, by simp, h2⟩, h3⟩
    · exact .inr ⟨h1, ⟨_, by simp, h2⟩⟩
  · rintro e W' ⟨h1, (⟨ys, h2, ys', h3, h4⟩ | ⟨pre, ⟨k, h2, h3⟩, pre', h4, h5⟩)⟩
    · exact ⟨h1, .inl ⟨ys', h3.trans h2, h4⟩⟩
    · exact ⟨h1, .inr ⟨pre', ⟨k, h2, h4.trans h3⟩, h5⟩⟩
def foldB {code : List S62} (m : Nat) (pre : List (BackE code)) : Nat := pre.foldl (fun m x => befN x.1.2 m) m
theorem foldB_snoc {code : List S62} (m : Nat) (pre : List (BackE code)) (x : BackE code) : foldB m (pre ++ [x]) = befN x.1.2 (foldB m pre) := by simp [foldB]
theorem foldB_map {code : List S62} (m : Nat) (pre : List (BackE code)) : foldB m pre = (pre.map (·.1)).foldl (fun m x => befN x.2 m) m := by simp [foldB, List.foldl_map]
theorem foldB_lt {R : Nat} {code : List S62} (hc : ∀ i ∈ code, OkI R i) : ∀ (pre : List (BackE code)) (m : Nat), m < 2 ^ R → foldB m pre < 2 ^ R
  | [], _, h => h
  | x :: pre, m, h => by
    obtain ⟨p, hp, e⟩ := x.2
    have hm : x.1.2 ∈ code := by rw [e]; show code.getD p _ ∈ code; rw [List.getD_eq_getElem?_getD, List.getElem?_eq_getElem hp]; simp
    exact foldB_lt hc pre _ (befN_lt (hc _ hm) h)
theorem foldl_back (code : List S62) (m : Nat) : (backL code code.length).foldl (fun m x => befN x.2 m) m = code.foldr befN m := by
  have h : (backL code code.length).map (·.2) = code.reverse := by
    apply List.ext_getElem?
    intro i
    by_cases hi : i < code.length
    · have h1 : code.length - 1 - i < code.length := by omega
      rw [List.getElem?_reverse (by omega)]
      simp [backL, hi, List.getD_eq_getElem?_getD, List.getElem?_eq_getElem h1]
    · rw [List.getElem?_eq_none (by simp [backL]; omega), List.getElem?_eq_none (by simp; omega)]
  have h2 : (backL code code.length).foldl (fun m x => befN x.2 m) m = ((backL code code.length).map (·.2)).foldl (fun m i => befN i m) m := by rw [List.foldl_map]
  rw [h2, h, List.foldl_reverse]
theorem memE {code : List S62} (x : BackE code) : x.1.2 ∈ code := by
  obtain ⟨p, hp, e⟩ := x.2
  rw [e]; show code.getD p _ ∈ code; rw [List.getD_eq_getElem?_getD, List.getElem?_eq_getElem hp]; simp
set_option maxRecDepth 100000 in
set_option maxHeartbeats 4000000 in
theorem back_in (F : Fence) (n : Nat) (hF : F.fn 43) (hro : F.round = none) (A : Option Addr) (len cap : Nat) (w : World) :
    CallsIn F n Try.prog 43 #[.slice A len cap] w fun e w' => e = .returned (.func (.func 67) #[] #[.pointer (some ⟨w.heap.size, 0, none⟩)]) ∧ w' = w.alloc (.cells #[.slice A len cap] 41) := by
  refine callsIn_of_wp Try.func43 rfl hF ?_ hro
  simp only [Try.ntmps43, List.size_toArray, List.length_cons, List.length_nil, Nat.reduceAdd, Nat.reduceSub, Array.replicate_succ, Array.replicate_zero, List.push_toArray, List.append_toArray, List.nil_append, List.cons_append]
  gi_wp2
  go_ret
  exact ⟨rfl, rfl⟩
end Go.Proofs.Ythgodpmahdnnjaa
end
section
namespace Go.Proofs.Ythgodpmahdnnjaa
open Go.RowKit Go.Proofs.YthgodpmahdnnjaaW.PrintWords Go.Proofs.YthgodpmahdnnjaaW.PrintMore Go.Proofs.Ythgodpmahdnnjaa.H
theorem before_l0 {R : Nat} (hR : R ≤ 40) (l : List Int) (hl : ∀ r ∈ l, 0 ≤ r ∧ r < R) (hl2 : l.length ≤ 1000) : ∀ (d i k m : Nat), i + d = l.length → d < k → m < 2 ^ R →
    liveness_before.l0 k (rowN R m) l (l.length : Int) (i : Int) = some (rowN R (addL m (l.drop i)))
  | 0, i, k, m, hi, hk, hm => by
    obtain ⟨k, rfl⟩ := k_add hk
    show liveness_before.l0 (k + 1) _ _ _ _ = _
    rw [liveness_before.l0, if_neg (by omega), List.drop_eq_nil_of_le (by omega)]; rfl
  | d + 1, i, k, m, hi, hk, hm => by
    obtain ⟨k, rfl⟩ : ∃ j, k = j + 1 := ⟨k - 1, by omega⟩
    have hi' : i < l.length := by omega
    rw [liveness_before.l0, if_pos (by omega), if_pos (by omega), if_pos (by omega)]
    have hmem : l[i] ∈ l := List.getElem_mem hi'
    have hr := hl _ hmem
    have hrd : rd l (i : Int) = ((l[i].toNat : Nat) : Int) := by
      unfold rd; rw [Int.toNat_natCast, List.getD_eq_getElem?_getD, List.getElem?_eq_getElem hi']; simp; omega
    rw [hrd, add_f hR hm (by omega)]
    have hw : wrap64 ((i : Int) + 1) = ((i + 1 : Nat) : Int) := by unfold wrap64; omega
    show liveness_before.l0 k _ l _ _ = _
    rw [hw, before_l0 hR l hl hl2 d (i + 1) k _ (by omega) (by omega) (add_lt hm (by omega)), List.drop_eq_getElem_cons hi']
    rfl
theorem Before_f {R m : Nat} {i : S62} (hR : R ≤ 40) (hi : OkI R i) (hm : m < 2 ^ R) : liveness_before.f 10 i.f0 i.f1 i.f2 i.f3 i.f4 i.f5 (rowN R m) = some (rowN R (befN i m)) := by
  unfold liveness_before.f
  rw [Defines_f]
  have hul : (usesL i).length ≤ 2 := by unfold usesL; split <;> split <;> simp
  have tl : ∀ m', m' < 2 ^ R → liveness_before.j0 10 (rowN R m') i.f0 i.f1 i.f2 i.f3 i.f4 i.f5 = some (rowN R (addL m' (usesL i))) := fun m' hm' => by
    show (ir_Uses.f i.f0 i.f1 i.f2 i.f3 i.f4 i.f5).bind _ = _
    rw [Uses_f]
    have := before_l0 hR (usesL i) hi.u (by omega) (usesL i).length 0 9 m' (by omega) (by omega) hm'
    simpa using this
  unfold befN
  cases h : (shp i.f0).1
  · simp only [Bool.false_eq_true, if_false, Option.bind_some]
    exact tl m hm
  · have hd := hi.d h
    simp only [if_true, Option.bind_some]
    have e : i.f1 = ((i.f1.toNat : Nat) : Int) := by omega
    have hrm := remove_f (R := R) (m := m) (r := i.f1.toNat) hR hm (by omega)
    rw [← e] at hrm
    rw [hrm]
    exact tl _ (clr_lt hm (by omega))
theorem AtEnd_f {R n m : Nat} {b : S43} (hR : R ≤ 40) (hb : OkB R n b) (hm : m < 2 ^ R) : liveness_atEnd.f b.f0 b.f1 b.f2 b.f3 b.f4 (rowN R m) = some (rowN R (endN b m)) := by
  unfold liveness_atEnd.f liveness_set_uint64_66.f
  have hl : (rowN R m).length ≤ 1000 := by unfold rowN; split <;> simp
  rw [if_pos hl]
  unfold endN
  by_cases h : b.f1 = 2
  · have hx := hb.x h
    rw [if_pos h]
    have e : b.f2 = ((b.f2.toNat : Nat) : Int) := by omega
    have ha := add_f (R := R) (m := m) (r := b.f2.toNat) hR hm (by omega)
    rw [← e] at ha
    show (if b.f1 = 2 then (liveness_set_add.f (rowN R m) b.f2).bind _ else _) = _
    rw [if_pos h, ha]; rfl
  · rw [if_neg h]
    show (if b.f1 = 2 then _ else _) = _
    rw [if_neg h]
theorem with_act {P : Program} {c : Code} {Q : Exit → Act → World → Prop} {w : World} (a : Act) (h : ∀ A, A = a → c.wp P Q A w) : c.wp P Q a w := h a rfl
theorem own_own1 {β : Type} (t s0 : Nat) (v : β → Value) (l : β → List Int) : Own (fun s W => Own1 t W s0 (v s) (l s)) := own_ownsRow s0 (te t) 1 v (fun s => (l s).length) (fun s => nums (tk t) (l s))
theorem keepB_b {n₀ Bs L : Nat} (h0 : n₀ ≤ L) (h1 : Bs < L) (W : World) (l : Nat) (o o' : Obj) (hl : L ≤ l) (_ : W.heap[l]? = some o) (_ : o.isCells = false) (_ : o.isWalk = false) : KeepB n₀ Bs W (W.putObj l o') :=
  ⟨below_putObj (Below.refl _ _) l o' (by omega), putObj_other _ _ _ (by omega)⟩
theorem below_between {w W W' : World} {B : Nat} (h : Below B w W) (k : Below B w W') (hs : W.heap.size ≤ W'.heap.size) : Below B W W' :=
  ⟨k.os.trans h.os.symm, k.tape.trans h.tape.symm, k.output.trans h.output.symm, hs, fun i hi => (k.block i hi).trans (h.block i hi).symm⟩
theorem at_rows {w : World} {A : Option Addr} {n : Nat} {xs : List (List Int)} (h : (Kd.slice 3 (Kd.int .i64)).C w A n xs) (i : Int) (h0 : 0 ≤ i) (h1 : i < n) :
    ∃ ad A0 c0, A = some ad ∧ w.cell? (ad.add i.toNat) = some (.slice A0 (xs.getD i.toNat []).length c0) ∧ (xs.getD i.toNat []).length ≤ c0 ∧ (Kd.int .i64).C w A0 (xs.getD i.toNat []).length (xs.getD i.toNat []) := by
  obtain ⟨ad, c, e, _, ⟨A0, c0, rfl, hl, hC⟩, hcc⟩ := Kd.C_get h [] i h0 h1
  refine ⟨ad, A0, c0, e, ?_, hl, hC⟩
  have := hcc 0 _ rfl
  simpa [show (Kd.slice 3 (Kd.int .i64)).sz = 1 from rfl] using this
theorem C_drop {w : World} {ad : Addr} {l : List S62} {k : Nat} (h : k62.C w (some ad) l.length l) (hk : k < l.length) : k62.C w (some (ad.add (k * 6))) (l.length - k) (l.drop k) := by
  refine ⟨by simp, by have := h.2.1; omega, fun _ => ⟨_, rfl, fun j p hp => ?_⟩⟩
  obtain ⟨ad1, e, hc⟩ := h.2.2 (by omega)
  cases e
  rw [List.getElem?_drop] at hp
  obtain ⟨c, hcl, hK, hcc⟩ := hc (k + j) p hp
  refine ⟨c, hcl, hK, fun i u hu => ?_⟩
  have := hcc i u hu
  rw [show Kd.sz k62 = 6 from rfl] at this ⊢
  rw [show (ad.add (k * 6)).add (j * 6 + i) = ad.add ((k + j) * 6 + i) by rw [add_add]; congr 1; omega]
  exact this
theorem C_none {w : World} {A : Option Addr} {l : List S62} (h : l = []) : k62.C w A 0 l := by
  subst h; exact ⟨rfl, by simp, fun h => absurd h (by simp)⟩
theorem cut_code {A : Option Addr} {l : List S62} {c k : Nat} (hc : l.length ≤ c) (hk : k ≤ l.length) :
    ∃ A2 c2, (∀ W, (Instr.slice 41 (.slice A l.length c) (some (.int .i64 (k : Int))) none none).run Try.prog W = .ok (.slice A2 (l.drop k).length c2) W) ∧ (l.drop k).length ≤ c2 ∧ ∀ w : World, k62.C w A l.length l → k62.C w A2 (l.drop k).length (l.drop k) := by
  have ht : Try.prog.underlying 41 = some (.slice (Try.prog.elem 41)) := by kernel_rfl
  have hs : ∀ W, (sizeOf (Try.prog.elem 41)).run Try.prog W = .ok 6 W := fun W => by
    have h1 : (Try.prog.info? (Try.prog.elem 41)).map (·.size) = some 6 := by kernel_rfl
    obtain ⟨i, hi, hz⟩ := Option.map_eq_some_iff.1 h1
    simp [sizeOf, typeInfo, hi, hz]
  refine ⟨if c = k then A else A.map (·.add (k * 6)), c - k, fun W => ?_, by simp; omega, fun w hC => ?_⟩
  · rw [run_slice_l (ht := ht) (h0 := by omega) (h1 := by omega), hs W]
    simp [Result.andThen, sliced]
  · rcases Nat.lt_or_ge k l.length with h | h
    · rw [if_neg (by omega)]
      obtain ⟨ad, rfl, _⟩ := hC.2.2 (by omega)
      have := C_drop hC h
      simpa using this
    · have e : l.drop k = [] := List.drop_eq_nil_of_le h
      rw [e]; exact C_none rfl
end Go.Proofs.Ythgodpmahdnnjaa
end
section
namespace Go.Proofs.Ythgodpmahdnnjaa
open Go.RowKit Go.Proofs.YthgodpmahdnnjaaW.PrintWords Go.Proofs.YthgodpmahdnnjaaW.PrintMore Go.Proofs.Ythgodpmahdnnjaa.H
attribute [local go_sem] Oper.semAt_some
def regsIn (R : Nat) (l : List Int) : List Int := l.filter fun r => decide (0 ≤ r) && decide (r < R)
def befoR (R : Int) (B : List S43) (OUT : List (List Int)) (block at_ : Int) : List Int :=
  if wfB R B = true ∧ 0 ≤ block ∧ block < B.length ∧ block < OUT.length ∧ 0 ≤ at_ ∧ at_ ≤ (B.getD block.toNat z43).f0.length then
    listN (((B.getD block.toNat z43).f0.drop at_.toNat).foldr befN (endN (B.getD block.toNat z43) (addL 0 (regsIn R.toNat (OUT.getD block.toNat [])))))
  else []
theorem cells2 {w : World} {g : Nat} {t : TypeId} {a b : Value} (h : w.heap[g]? = some (.cells #[a, b] t (0, 0))) : w.cell? ⟨g, 0, none⟩ = some a ∧ w.cell? ⟨g, 1, none⟩ = some b := ⟨(blk_cell h 0).trans rfl, (blk_cell h 1).trans rfl⟩
set_option maxHeartbeats 4000000 in
set_option maxRecDepth 100000 in
theorem Before_calls (nm : ByteArray) (R : Int) (A2 : Option Addr) (c2 n2 : Nat) (A3 : Option Addr) (c3 : Nat) (B : List S43) (Ai : Option Addr) (ni ci : Nat) (Ao : Option Addr) (co : Nat) (OUT : List (List Int)) (block at_ : Int) (w : World)
    (hC3 : k43.C w A3 B.length B) (hc3 : B.length ≤ c3) (hn : B.length ≤ 1000) (hcode : ∀ x ∈ B, x.f0.length ≤ 1000) (hR : R ≤ 40)
    (hCo : (Kd.slice 3 (Kd.int .i64)).C w Ao OUT.length OUT) (hco : OUT.length ≤ co) (hno : OUT.length ≤ 1000) (hon : ∀ x ∈ OUT, x.length ≤ 1000) :
    Calls Try.prog 13 #[.agg #[.string nm, .int .i64 R, .slice A2 n2 c2, .slice A3 B.length c3], .agg #[.slice Ai ni ci, .slice Ao OUT.length co], .int .i64 block, .int .i64 at_] w
      fun e w' => ∃ v, e = .returned v ∧ (Kd.int .i64).R 3 w' w.heap.size (fun _ => True) v (befoR R B OUT block at_) ∧ Below w.heap.size w w' := by
  obtain ⟨ans, hans⟩ : ∃ ans, ans = befoR R B OUT block at_ := ⟨_, rfl⟩
  rw [← hans]
  have HANS := Lib.hid hans
  clear hans
  have HC3 := Lib.hid hC3
  have HCO := Lib.hid hCo
  have HCD := Lib.hid hcode
  clear hC3 hCo hcode
  have hcs : (wfB R B = false) ∨ (wfB R B = true ∧ decide (block < 0) = true) ∨ (wfB R B = true ∧ decide (block < 0) = false ∧ decide ((B.length : Int) ≤ block) = true) ∨
      (wfB R B = true ∧ decide (block < 0) = false ∧ decide ((B.length : Int) ≤ block) = false ∧ decide ((OUT.length : Int) ≤ block) = true) ∨
      (wfB R B = true ∧ decide (block < 0) = false ∧ decide ((B.length : Int) ≤ block) = false ∧ decide ((OUT.length : Int) ≤ block) = false) := by
    by_cases h1 : wfB R B = true
    · by_cases h2 : block < 0
      · simp [h1, h2]
      · by_cases h3 : (B.length : Int) ≤ block
        · simp [h1, h2, h3]
        · by_cases h4 : (OUT.length : Int) ≤ block
          · simp [h1, h2, h3, h4]
          · simp [h1, h2, h3, h4]
    · simp [h1]
  refine calls_of_wp_marks Try.func13 rfl ?_
  simp only [Try.ntmps13, List.size_toArray, List.length_cons, List.length_nil, Nat.reduceAdd, Nat.reduceSub, Array.replicate_succ, Array.replicate_zero, List.push_toArray, List.append_toArray, List.nil_append, List.cons_append]
  obtain ⟨o, ho⟩ : ∃ o, o = wfB R B := ⟨_, rfl⟩
  rw [← ho] at hcs
  have HO := Lib.hid ho
  clear ho
  rcases hcs with rfl | ⟨rfl, b1⟩ | ⟨rfl, b1, b2⟩ | ⟨rfl, b1, b2, b3⟩ | ⟨rfl, b1, b2, b3⟩
  iterate 4
    · go_upto_region 2 with (first
        | ((with_reducible refine gate_dst (N := 4) rfl ?_); refine box_event ?hg (N := 4) ?hd (cs := #[.string nm, .int .i64 R, .slice A2 n2 c2, .slice A3 B.length c3]) (t := 25) ?hr ?_; (case hd => rfl); (case hg => rfl); (case hr => first | (go_simp; done) | (go_simp; rfl)); intro g hg w3 hbox hbw; have BK := Lib.hid hbox; have HBW := Lib.hid hbw; have hgl := heap_lt hbox; clear hbox hbw; have HG := Lib.hid hg; clear hg)
        | ((with_reducible refine gate_dst (N := 5) rfl ?_); refine box_event ?hg (N := 5) ?hd (cs := #[.slice Ai ni ci, .slice Ao OUT.length co]) (t := 30) ?hr ?_; (case hd => rfl); (case hg => rfl); (case hr => first | (go_simp; done) | (go_simp; rfl)); intro g5 hg5 w5 hbox5 hbw5; obtain ⟨y0, y1⟩ := cells2 hbox5; have BK5 := Lib.hid hbox5; have HBW5 := Lib.hid hbw5; have BKA := Lib.hid (heap_below BK.out hbw5); clear hbox5 hbw5; obtain ⟨z0, z1, z2, z3⟩ := cells4 BKA.out; have HG5 := Lib.hid hg5; clear hg5)
        | (go_at_call 35; refine (wf_calls nm R A2 c2 n2 A3 c3 B _ (Kd.C_below (Kd.C_below HC3.out HBW.out) HBW5.out) hc3 hn HCD.out).mono ?_; rw [← HO.out]; rintro e w6 ⟨rfl, hb6⟩; have HB6 := Lib.hid hb6; have BKB := Lib.hid (heap_below BKA.out hb6); have BKC := Lib.hid (heap_below BK5.out hb6); clear hb6 z0 z1 z2 z3 y0 y1; obtain ⟨z0, z1, z2, z3⟩ := cells4 BKB.out; obtain ⟨y0, y1⟩ := cells2 BKC.out)
        | fail)
      have hb06 : Below w.heap.size w w6 := HBW.out.trans ((HBW5.out.trans (HB6.out.mono HBW5.out.size)).mono HBW.out.size)
      have hnil : ans = [] := by
        rw [HANS.out]
        unfold befoR
        rw [if_neg]
        rintro ⟨h1, h2, h3, h4, _⟩
        have := HO.out
        first
          | (rw [h1] at this; cases this; done)
          | (simp at b1; omega)
          | (simp at b2; omega)
          | (simp at b3; omega)
      subst hnil
      have HX := Lib.hid hb06
      clear hb06
      go_wp2
      refine ret_marks (Ds := []) (base := w.heap.size) ⟨List.nodup_nil, by simp⟩ ?_
      intro w7 hb7 _
      exact ⟨_, results_tmp rfl _ _ _, _, rfl, Kd.R_nil _ _ _ _ _, HX.out.trans hb7⟩
  · go_upto_region 3 with (first
      | ((with_reducible refine gate_dst (N := 4) rfl ?_); refine box_event ?hg (N := 4) ?hd (cs := #[.string nm, .int .i64 R, .slice A2 n2 c2, .slice A3 B.length c3]) (t := 25) ?hr ?_; (case hd => rfl); (case hg => rfl); (case hr => first | (go_simp; done) | (go_simp; rfl)); intro g hg w3 hbox hbw; have BK := Lib.hid hbox; have HBW := Lib.hid hbw; have hgl := heap_lt hbox; clear hbox hbw; have HG := Lib.hid hg; clear hg)
      | ((with_reducible refine gate_dst (N := 5) rfl ?_); refine box_event ?hg (N := 5) ?hd (cs := #[.slice Ai ni ci, .slice Ao OUT.length co]) (t := 30) ?hr ?_; (case hd => rfl); (case hg => rfl); (case hr => first | (go_simp; done) | (go_simp; rfl)); intro g5 hg5 w5 hbox5 hbw5; obtain ⟨y0, y1⟩ := cells2 hbox5; have BK5 := Lib.hid hbox5; have HBW5 := Lib.hid hbw5; have BKA := Lib.hid (heap_below BK.out hbw5); clear hbox5 hbw5; obtain ⟨z0, z1, z2, z3⟩ := cells4 BKA.out; have HG5 := Lib.hid hg5; clear hg5)
      | (go_at_call 35; refine (wf_calls nm R A2 c2 n2 A3 c3 B _ (Kd.C_below (Kd.C_below HC3.out HBW.out) HBW5.out) hc3 hn HCD.out).mono ?_; rw [← HO.out]; rintro e w6 ⟨rfl, hb6⟩; have HB6 := Lib.hid hb6; have BKB := Lib.hid (heap_below BKA.out hb6); have BKC := Lib.hid (heap_below BK5.out hb6); clear hb6 z0 z1 z2 z3 y0 y1; obtain ⟨z0, z1, z2, z3⟩ := cells4 BKB.out; obtain ⟨y0, y1⟩ := cells2 BKC.out)
      | fail)
    obtain ⟨N, rfl, hN, hF⟩ := (wfB_iff R B).1 HO.out.symm
    simp only [decide_eq_false_iff_not, Int.not_le, Int.not_lt] at b1 b2 b3
    have hbN : block.toNat < B.length := by omega
    obtain ⟨ad, A0, c0, hA3, p0, p1, p2, p3, p4, hl0, hC0⟩ := at_T43 HC3.out block (by omega) (by omega)
    subst hA3
    have hrd : rd_T43 B block = B.getD block.toNat z43 := rfl
    rw [hrd] at p0 p1 p2 p3 p4 hl0 hC0
    have hb06 : Below w.heap.size w w6 := HBW.out.trans ((HBW5.out.trans (HB6.out.mono HBW5.out.size)).mono HBW.out.size)
    have q0 := (World.cell?_of_block (hb06.block _ (World.block_lt_of_cell? w _ p0))).trans p0
    have q1 := (World.cell?_of_block (hb06.block _ (World.block_lt_of_cell? w _ p1))).trans p1
    have q2 := (World.cell?_of_block (hb06.block _ (World.block_lt_of_cell? w _ p2))).trans p2
    have q3 := (World.cell?_of_block (hb06.block _ (World.block_lt_of_cell? w _ p3))).trans p3
    have q4 := (World.cell?_of_block (hb06.block _ (World.block_lt_of_cell? w _ p4))).trans p4
    clear p0 p1 p2 p3 p4 hb06
    have hmem := memB hbN
    have hOb := hF.b _ hmem
    have hcl := HCD.out _ hmem
    obtain ⟨x, hx⟩ : ∃ x, x = B.getD block.toNat z43 := ⟨_, rfl⟩
    rw [← hx] at q0 q1 q2 q3 q4 hl0 hC0 hOb hcl
    have HC0 := Lib.hid hC0
    have HOb := Lib.hid hOb
    have HX := Lib.hid hx
    have d1 : decide (block < 0) = false := decide_eq_false (by omega)
    have d2 : decide ((B.length : Int) ≤ block) = false := decide_eq_false (by omega)
    have d3 : decide ((OUT.length : Int) ≤ block) = false := decide_eq_false (by omega)
    clear hC0 hOb hx hrd hmem
    go_upto_region 4 with (first
      | ((with_reducible refine gate_dst (N := 9) rfl ?_); refine box_event ?hg (N := 9) ?hd (cs := #[.slice none 0 0, .int .u8 0, .int .i64 0, .int .i64 0, .int .i64 0]) (t := 43) ?hr ?_; (case hd => rfl); (case hg => rfl); (case hr => first | (go_simp; done) | (go_simp; rfl)); intro g9 hg9 w9 hbox9 hbw9; obtain ⟨k0, k1, k2, k3, k4⟩ := cells5 hbox9; have f0 := blk_frozen hbox9 0; have f1 := blk_frozen hbox9 1; have f2 := blk_frozen hbox9 2; have f3 := blk_frozen hbox9 3; have f4 := blk_frozen hbox9 4; have BK9 := Lib.hid hbox9; have HBW9 := Lib.hid hbw9; have HG9 := Lib.hid hg9; clear hbox9 hbw9 hg9)
      | fail)
    have hg9l : w.heap.size ≤ g9 := by rw [HG9.out]; exact Nat.le_trans (HBW.out.trans (HBW5.out.mono HBW.out.size)).size HB6.out.size
    obtain ⟨w8, hw8⟩ : ∃ w8, w8 = (((((w9.setCell ⟨g9, 0, none⟩ (.slice A0 x.f0.length c0)).setCell ⟨g9, 1, none⟩ (.int .u8 x.f1)).setCell ⟨g9, 2, none⟩ (.int .i64 x.f2)).setCell ⟨g9, 3, none⟩ (.int .i64 x.f3)).setCell ⟨g9, 4, none⟩ (.int .i64 x.f4)) := ⟨_, rfl⟩
    have hg9e : w6.heap.size ≤ g9 := by rw [HG9.out]; exact Nat.le_refl _
    have hb68 : Below w6.heap.size w6 w8 := by
      rw [hw8]
      exact ((((HBW9.out.setCell (p := ⟨g9, 0, none⟩) hg9e _).setCell (p := ⟨g9, 1, none⟩) hg9e _).setCell (p := ⟨g9, 2, none⟩) hg9e _).setCell (p := ⟨g9, 3, none⟩) hg9e _).setCell (p := ⟨g9, 4, none⟩) hg9e _
    have hk8 : w8.heap[g9]? = some (.cells #[.slice A0 x.f0.length c0, .int .u8 x.f1, .int .i64 x.f2, .int .i64 x.f3, .int .i64 x.f4] 43 (0, 0)) := by rw [hw8]; exact blk_five BK9.out _ _ _ _ _
    rw [← hw8]
    have hb08 : Below w.heap.size w w8 := (HBW.out.trans ((HBW5.out.trans (HB6.out.mono HBW5.out.size)).mono HBW.out.size)).trans (hb68.mono (HBW.out.trans ((HBW5.out.trans (HB6.out.mono HBW5.out.size)).mono HBW.out.size)).size)
    have BKX := Lib.hid (heap_below BKB.out hb68)
    have BKY := Lib.hid (heap_below BKC.out hb68)
    have HB8 := Lib.hid hb08
    have HK8 := Lib.hid hk8
    clear hw8 hb68 hk8 hb08 HG9 hg9e HBW9 BK9 BKB BKC BKA BK5 BK HBW5 HBW HB6 z0 z1 z2 z3 y0 y1 k0 k1 k2 k3 k4 f0 f1 f2 f3 f4 q0 q1 q2 q3 q4 d1 d2 d3 hgl HG HG5
    obtain ⟨k0, k1, k2, k3, k4⟩ := cells5 HK8.out
    obtain ⟨z0, z1, z2, z3⟩ := cells4 BKX.out
    obtain ⟨y0, y1⟩ := cells2 BKY.out
    have hcs : (decide (at_ < 0) = true ∧ ans = []) ∨ (decide (at_ < 0) = false ∧ decide ((x.f0.length : Int) < at_) = true ∧ ans = []) ∨ (decide (at_ < 0) = false ∧ decide ((x.f0.length : Int) < at_) = false ∧ 0 ≤ at_ ∧ at_ ≤ x.f0.length) := by
      rw [HANS.out]
      unfold befoR
      rw [← HX.out]
      by_cases e1 : at_ < 0
      · left; exact ⟨decide_eq_true e1, if_neg (by omega)⟩
      · by_cases e2 : (x.f0.length : Int) < at_
        · right; left; exact ⟨decide_eq_false e1, decide_eq_true e2, if_neg (by omega)⟩
        · right; right; exact ⟨decide_eq_false e1, decide_eq_false e2, by omega, by omega⟩
    rcases hcs with ⟨e1, rfl⟩ | ⟨e1, e2, rfl⟩ | ⟨e1, e2, e3, e4⟩
    iterate 2
      · go_wp2
        refine ret_marks (Ds := []) (base := w.heap.size) ⟨List.nodup_nil, by simp⟩ ?_
        intro w7 hb7 _
        exact ⟨_, results_tmp rfl _ _ _, _, rfl, Kd.R_nil _ _ _ _ _, HB8.out.trans hb7⟩
    have hR0 := newSet_f (R := N) (by omega)
    go_upto_region 7 with (first
      | (go_at_call 40; refine (liveness_newSet.calls _ _ _ hR0).mono ?_; rintro e w10 ⟨v10, rfl, hR10, hb10⟩; obtain ⟨A10, c10, rfl, hl10, hC10⟩ := Kd.R_reads hR10; have HR10 := Lib.hid hR10; have HB10 := Lib.hid hb10; clear hR10 hb10 hC10)
      | ((with_reducible refine gate_dst (N := 10) rfl ?_); refine box_event ?hg (N := 10) ?hd (cs := #[.slice none 0 0]) (t := 75) ?hr ?_; (case hd => rfl); (case hg => rfl); (case hr => first | (go_simp; done) | (go_simp; rfl)); intro g10 hg10 w11 hbox11 hbw11; have n0 := (blk_cell hbox11 0).trans rfl; have f0 := blk_frozen hbox11 0; have BK11 := Lib.hid hbox11; have HBW11 := Lib.hid hbw11; have HG11 := Lib.hid hg10; clear hbox11 hbw11 hg10)
      | fail)
    obtain ⟨lv, hlv⟩ : ∃ lv, lv = Value.slice A10 (rowN N 0).length c10 := ⟨_, rfl⟩
    obtain ⟨w12, hw12⟩ : ∃ w12, w12 = w11.setCell ⟨g10, 0, none⟩ (.slice A10 (rowN N 0).length c10) := ⟨_, rfl⟩
    rw [← hw12]
    have hg10l : w8.heap.size ≤ g10 := by rw [HG11.out]; exact HB10.out.size
    have hb812 : Below w8.heap.size w8 w12 := by
      rw [hw12]
      exact (HB10.out.trans (HBW11.out.mono HB10.out.size)).setCell (p := ⟨g10, 0, none⟩) hg10l _
    have hK12 : w12.heap[g10]? = some (.cells #[lv] 75 (0, 0)) := by rw [hw12, hlv]; exact blk_put BK11.out 0 _ rfl
    have hown10 : Own1 4 w10 w8.heap.size lv (rowN N 0) := by rw [hlv]; exact Own1.of_R0 (t := 4) HR10.out
    have hlvl : ∀ k, lv.ownBlock = some k → w8.heap.size ≤ k ∧ k < g10 := fun k hk => by
      have := hown10.lt k hk
      rw [HG11.out]; exact this
    have hown12 : Own1 4 w12 w8.heap.size lv (rowN N 0) := hown10.move fun k hk => by
      have h1 := hlvl k hk
      have h2 := (hown10.lt k hk).2
      rw [hw12]
      exact (Below.heap_setCell w11 ⟨g10, 0, none⟩ _ k (by show k ≠ g10; omega)).trans (HBW11.out.block k h2)
    have hb012 : Below w.heap.size w w12 := HB8.out.trans (hb812.mono HB8.out.size)
    obtain ⟨ado, Ar, cr, hAo, r0w, hlr, hCr⟩ := at_rows HCO.out block (by omega) (by omega)
    subst hAo
    have r0 := (World.cell?_of_block (hb012.block _ (World.block_lt_of_cell? w _ r0w))).trans r0w
    clear r0w
    have hLo : (OUT.getD block.toNat []).length ≤ 1000 := by
      have hlt : block.toNat < OUT.length := by omega
      rw [List.getD_eq_getElem?_getD, List.getElem?_eq_getElem hlt]; exact hon _ (List.getElem_mem hlt)
    obtain ⟨L, hL⟩ : ∃ L, L = OUT.getD block.toNat [] := ⟨_, rfl⟩
    rw [← hL] at r0 hlr hCr hLo
    have HL := Lib.hid hL
    have BKX2 := Lib.hid (heap_below BKX.out hb812)
    have BKY2 := Lib.hid (heap_below BKY.out hb812)
    have HK9 := Lib.hid (heap_below HK8.out hb812)
    have HB12 := Lib.hid hb012
    have HK12 := Lib.hid hK12
    have HO12 := Lib.hid hown12
    have HLVL := Lib.hid hlvl
    have HCR := Lib.hid hCr
    have HLV := Lib.hid hlv
    have hg8 : g9 < w8.heap.size := heap_lt HK8.out
    have hgg8 : g < w8.heap.size := heap_lt BKX.out
    have HW8 := Lib.hid (show w8.heap.size ≤ w12.heap.size from hb812.size)
    clear hw12 hb812 hK12 hown10 hown12 hlvl hb012 hCr hL n0 f0 k0 k1 k2 k3 k4 z0 z1 z2 z3 y0 y1 HR10 HBW11 BK11 HK8 BKX BKY HB10 hlv e1 e2 hR0
    obtain ⟨k0, k1, k2, k3, k4⟩ := cells5 HK9.out
    obtain ⟨z0, z1, z2, z3⟩ := cells4 BKX2.out
    obtain ⟨y0, y1⟩ := cells2 BKY2.out
    go_wp2
    clear k0 k1 k2 k3 k4 z0 z1 z2 z3 y0 y1 r0
    go_loopw [59] (fun v wr => ∃ i : Nat, i ≤ L.length ∧ v = .int .i64 i ∧ Own1 4 wr w.heap.size lv (rowN N (addL 0 (regsIn N (L.take i)))) ∧ wr.heap[g10]? = some (.cells #[lv] 75 (0, 0)) ∧ Below w.heap.size w wr ∧ Kept w12 wr (fun k => lv.ownBlock = some k)) (fun v _ => L.length - (intOf v).toNat)
    case atStart => exact ⟨0, Nat.zero_le _, rfl, HO12.out.lower HB8.out.size, HK12.out, HB12.out, Kept.refl _ _⟩
    case round =>
      obtain ⟨i, hi, rfl, how, hbk, hbw, hkw⟩ := hrel
      have hm0 : addL 0 (regsIn N (L.take i)) < 2 ^ N := addL_lt _ _ (Nat.two_pow_pos _) (fun r hr => by
        have := (List.mem_filter.1 hr).2
        simp at this; exact this)
      have hsame : ∀ k, k < w8.heap.size → wr.heap[k]? = w12.heap[k]? := fun k hk => hkw.2 k (Nat.lt_of_lt_of_le hk HW8.out) (fun hS => by have := HLVL.out k hS; omega)
      have hbx : wr.heap[g]? = _ := (hsame g hgg8).trans BKX2.out
      obtain ⟨z0, z1, z2, z3⟩ := cells4 hbx
      have n0 : wr.cell? ⟨g10, 0, none⟩ = some lv := (blk_cell hbk 0).trans rfl
      have hcr : (Kd.int .i64).C wr Ar L.length L := Kd.C_below HCR.out hbw
      have HBW := Lib.hid hbw
      have HKW := Lib.hid hkw
      have HBK := Lib.hid hbk
      have HOW := Lib.hid how
      clear hkw hbw hbk how hbx
      by_cases hlt : i < L.length
      · obtain ⟨ar, hA, hq⟩ := at_ints hcr i hlt
        subst hA
        have hst : regsIn N (L.take (i + 1)) = regsIn N (L.take i) ++ (if (decide (0 ≤ L.getD i 0) && decide (L.getD i 0 < N)) = true then [L.getD i 0] else []) := by
          unfold regsIn
          rw [List.take_succ_eq_append_getElem hlt, List.filter_append, List.getD_eq_getElem?_getD, List.getElem?_eq_getElem hlt]
          simp only [Option.getD_some, List.filter_cons, List.filter_nil]
        obtain ⟨q, hqe⟩ : ∃ q, q = L.getD i 0 := ⟨_, rfl⟩
        rw [← hqe] at hq hst
        have HST := Lib.hid hst
        clear hst hqe hcr
        have hcs : (decide (0 ≤ q) = false ∧ (decide (0 ≤ q) && decide (q < N)) = false) ∨ (decide (0 ≤ q) = true ∧ decide (q < N) = false ∧ (decide (0 ≤ q) && decide (q < N)) = false) ∨ (decide (0 ≤ q) = true ∧ decide (q < N) = true ∧ (decide (0 ≤ q) && decide (q < N)) = true) := by
          by_cases e1 : 0 ≤ q
          · by_cases e2 : q < N
            · simp [e1, e2]
            · simp [e1, e2]
          · simp [e1]
        rcases hcs with ⟨d1, d2⟩ | ⟨d1, d2, d3⟩ | ⟨d1, d2, d3⟩
        · have HX2 := Lib.hid d2
          clear d2
          go_wp2
          go_roundw
          case rel => exact ⟨i + 1, by omega, by go_num, by rw [HST.out, HX2.out]; simpa using HOW.out, HBK.out, HBW.out, HKW.out⟩
          case measure => simp [intOf]; omega
        · have HX2 := Lib.hid d3
          clear d3
          go_wp2
          go_roundw
          case rel => exact ⟨i + 1, by omega, by go_num, by rw [HST.out, HX2.out]; simpa using HOW.out, HBK.out, HBW.out, HKW.out⟩
          case measure => simp [intOf]; omega
        · have HX2 := Lib.hid d3
          have hq0 : 0 ≤ q ∧ q < N := by simp at d1 d2; exact ⟨d1, d2⟩
          have hadd : liveness_set_add.f (rowN N (addL 0 (regsIn N (L.take i)))) q = some (rowN N (addL 0 (regsIn N (L.take (i + 1))))) := by
            have e := add_f (R := N) (r := q.toNat) (by omega) hm0 (by omega)
            rw [show ((q.toNat : Nat) : Int) = q by omega] at e
            rw [e, HST.out, HX2.out]
            simp [addL, List.foldl_append]
          have HADD := Lib.hid hadd
          clear d3 hadd
          go_wp2_with (first
            | (go_at_call 41; refine (liveness_set_add.calls (fun k => lv.ownBlock = some k) lv _ _ _ w wr HBW.out (HOW.out.R0 (t := 4) (fun _ hk => hk)) HADD.out).mono ?_; rintro e wa ⟨rfl, hRa, hBa, hKa⟩; have HOA := Lib.hid (Own1.of_R0 (t := 4) hRa); have HBA := Lib.hid hBa; have HKA := Lib.hid hKa; clear hRa hBa hKa)
            | fail)
          go_roundw
          case rel =>
            refine ⟨i + 1, by omega, by go_num, HOA.out, (HKA.out.2 g10 (heap_lt HBK.out) (fun hS => ?_)).trans HBK.out, HBA.out, HKW.out.then_ HKA.out (fun k hk => .inl hk)⟩
            have := HLVL.out g10 hS; omega
          case measure => simp [intOf]; omega
      · have e : i = L.length := by omega
        subst e
        rw [List.take_length] at HOW hm0
        obtain ⟨m0, hm0e⟩ : ∃ m0, m0 = addL 0 (regsIn N L) := ⟨_, rfl⟩
        rw [← hm0e] at HOW hm0
        have HM0 := Lib.hid hm0e
        clear hcr hm0e
        have hend := AtEnd_f (by omega) HOb.out hm0
        have HK9r := Lib.hid ((hsame g9 hg8).trans HK9.out)
        have HBXr := Lib.hid ((hsame g hgg8).trans BKX2.out)
        have hCode : k62.C wr A0 x.f0.length x.f0 := Kd.C_below HC0.out HBW.out
        obtain ⟨A1, c1, elv, hl1, hC1⟩ := Kd.R_reads (HOW.out.R0 (t := 4) (ok := fun _ => True) (fun _ _ => trivial))
        have hcall := liveness_atEnd.calls A0 c0 x.f0 x.f1 x.f2 x.f3 x.f4 A1 c1 (rowN N m0) _ wr hCode hl0 hC1 hl1 hend
        rw [← elv] at hcall
        have HCALL := Lib.hid hcall
        have HCODE := Lib.hid hCode
        have HSAME := Lib.hid hsame
        obtain ⟨k0, k1, k2, k3, k4⟩ := cells5 HK9r.out
        clear hcall hCode hsame hend hC1 hl1 elv
        go_upto_region 14 with (first
          | (go_at_call 42; refine HCALL.out.mono ?_; rintro e wb ⟨vb, rfl, hRb, hBb⟩; obtain ⟨Ab, cb, evb, hlb, _⟩ := Kd.R_reads hRb; have HRB := Lib.hid hRb; have HBB := Lib.hid hBb; have n1 := (blk_cell (heap_below HBK.out hBb) 0).trans rfl; have f1 := blk_frozen (heap_below HBK.out hBb) 0; clear hRb hBb; subst evb)
          | fail)
        obtain ⟨wc, hwc⟩ : ∃ wc, wc = wb.setCell ⟨g10, 0, none⟩ (.slice Ab (rowN N (endN x m0)).length cb) := ⟨_, rfl⟩
        rw [← hwc]
        obtain ⟨v1, hv1⟩ : ∃ v1, v1 = Value.slice Ab (rowN N (endN x m0)).length cb := ⟨_, rfl⟩
        have hm1 : endN x m0 < 2 ^ N := endN_lt HOb.out hm0
        obtain ⟨m1, hm1e⟩ : ∃ m1, m1 = endN x m0 := ⟨_, rfl⟩
        have hownb : Own1 4 wb wr.heap.size v1 (rowN N m1) := by rw [hv1, hm1e]; exact Own1.of_R0 (t := 4) HRB.out
        have hg10r := heap_lt HBK.out
        have hv1l : ∀ k, v1.ownBlock = some k → wr.heap.size ≤ k ∧ k < wb.heap.size := fun k hk => hownb.lt k hk
        have hownc : Own1 4 wc wr.heap.size v1 (rowN N m1) := hownb.move fun k hk => by
          rw [hwc]; exact Below.heap_setCell wb ⟨g10, 0, none⟩ _ k (by have := hv1l k hk; show k ≠ g10; omega)
        have hg10w : w.heap.size ≤ g10 := Nat.le_trans HB8.out.size hg10l
        have hbwc : Below w.heap.size w wc := by
          rw [hwc]; exact (HBW.out.trans (HBB.out.mono HBW.out.size)).setCell (p := ⟨g10, 0, none⟩) hg10w _
        have hbkc : wc.heap[g10]? = some (.cells #[v1] 75 (0, 0)) := by rw [hwc, hv1]; exact blk_put (heap_below HBK.out HBB.out) 0 _ rfl
        have hk9c : wc.heap[g9]? = wr.heap[g9]? := by
          rw [hwc]; exact (Below.heap_setCell wb ⟨g10, 0, none⟩ _ g9 (by show g9 ≠ g10; omega)).trans (HBB.out.block g9 (heap_lt HK9r.out))
        replace hk9c := hk9c.trans HK9r.out
        obtain ⟨k0, k1, k2, k3, k4⟩ := cells5 hk9c
        rw [← hv1] at hwc
        have HWC := Lib.hid hwc
        have HOC := Lib.hid hownc
        have HV1 := Lib.hid hv1
        have HV1L := Lib.hid hv1l
        have HBC := Lib.hid hbwc
        have HBKC := Lib.hid hbkc
        have HM1 := Lib.hid hm1e
        obtain ⟨a, rfl⟩ := Int.eq_ofNat_of_zero_le e3
        obtain ⟨A2', c2', hcut, hl2, hC2⟩ := cut_code hl0 (show a ≤ x.f0.length by omega)
        obtain ⟨cd, hcd⟩ : ∃ cd, cd = x.f0.drop a := ⟨_, rfl⟩
        rw [← hcd] at hcut hl2 hC2
        have hcdl : cd.length ≤ 1000 := by rw [hcd]; simp; omega
        have hcdo : ∀ i ∈ cd, OkI N i := fun i hi => HOb.out.code i (by rw [hcd] at hi; exact List.mem_of_mem_drop hi)
        have HCDO := Lib.hid hcdo
        have HCDE := Lib.hid hcd
        clear hcd hcdo
        have HC2 := Lib.hid (hC2 w HC0.out)
        clear hwc hownb hownc hv1 hv1l hbwc hbkc hk9c hC2 n1 f1 z0 z1 z2 z3 n0
        have hC9 := (callsIn_wide (n := 0)).1 (back_in Fence.wide 0 trivial rfl A2' cd.length c2' wc)
        go_wp2_with (first
          | (go_at_call 43; refine hC9.mono ?_; rintro e wd ⟨rfl, hwd⟩; have HWD := Lib.hid hwd; clear hwd hC9)
          | fail)
        have hbs : wd.heap[wc.heap.size]? = some (.cells #[.slice A2' cd.length c2'] 41 (0, 0)) := by rw [HWD.out]; exact World.alloc_heap_new wc _
        have hcd : Below wc.heap.size wc wd := by rw [HWD.out]; exact (Below.refl _ wc).alloc (Nat.le_refl _) _
        have hbwd : Below w.heap.size w wd := HBC.out.trans (hcd.mono HBC.out.size)
        have hownd : Own1 4 wd w.heap.size v1 (rowN N m1) := (HOC.out.lower HBW.out.size).kept (Kept.of_below hcd (fun _ => False)) (fun _ _ h => h)
        have hbkd := heap_below HBKC.out hcd
        have hszd : wd.heap.size = wc.heap.size + 1 := by rw [HWD.out]; exact alloc_size1 _ _
        have HBS := Lib.hid hbs
        have HBWD := Lib.hid hbwd
        have HOWND := Lib.hid hownd
        have HBKD := Lib.hid hbkd
        clear hbs hcd hbwd hownd hbkd k0 k1 k2 k3 k4 hcut
        refine with_act _ ?_
        intro A hA
        refine (wpIn_wide (n := 9)).1 ?_
        refine wpIn_rangeFunc_ownH (F := Fence.wide) (n := 9) rfl (by decide) (gf := 67) (lb := #[.pointer (some ⟨wc.heap.size, 0, none⟩)]) (by rw [hA]; rfl) trivial (enters_of Try.func67 (by kernel_rfl) rfl)
          (back_stops Fence.wide 8 trivial rfl (by decide) wc.heap.size w A2' c2' cd HC2.out hcdl wd HBWD.out HBS.out) (fun h k => KeepB.trans h k) (keepB_b HBWD.out.size (by omega)) (Below.refl _ _) (fun _ => rfl)
          (fun pre W => (Own1 4 W w.heap.size v1 (rowN N (foldB m1 pre)) ∧ W.heap[g10]? = some (.cells #[v1] 75 (0, 0)) ∧ W.heap[wc.heap.size]? = some (.cells #[.slice A2' cd.length c2'] 41 (0, 0))) ∧ Below w.heap.size w W) (fun _ _ _ => False)
          (OwnFrom.and (OwnFrom.and (Own.from (own_own1 4 w.heap.size (fun _ => v1) (fun pre => rowN N (foldB m1 pre))) _) (OwnFrom.and (Own.from (own_cells g10 (fun _ => #[v1]) 75) _) (Own.from (own_cells wc.heap.size (fun _ => #[.slice A2' cd.length c2']) 41) _))) (ownFrom_below (Nat.le_refl _) HBWD.out.size))
          (fun _ _ _ _ _ hs _ _ => hs) ⟨⟨HOWND.out, HBKD.out, HBS.out⟩, HBWD.out⟩
          (fun x a' W => ∃ Bx, W.heap[Bx]? = some (.cells #[.int .u8 x.1.2.f0, .int .i64 x.1.2.f1, .int .i64 x.1.2.f2, .int .i64 x.1.2.f3, .int .i64 x.1.2.f4, .string x.1.2.f5] 62 (0, 0)) ∧
            a' = { tmps := ((A.tmps.setIfInBounds 83 (.int .i64 x.1.1)).setIfInBounds 84 (.agg #[.int .u8 x.1.2.f0, .int .i64 x.1.2.f1, .int .i64 x.1.2.f2, .int .i64 x.1.2.f3, .int .i64 x.1.2.f4, .string x.1.2.f5])).setIfInBounds 14 (.pointer (some ⟨Bx, 0, none⟩)), defers := [] })
          (fun x a' _ X Y row hs hg hr => by obtain ⟨Bx, h1, h2⟩ := hs; exact ⟨Bx, own_cells Bx (fun (_ : Unit) => #[.int .u8 x.1.2.f0, .int .i64 x.1.2.f1, .int .i64 x.1.2.f2, .int .i64 x.1.2.f3, .int .i64 x.1.2.f4, .string x.1.2.f5]) 62 () X Y row h1 hg (fun r e => (hr r e).2), h2⟩)
          ?assign ?body ?done ?stop
        case assign =>
          rintro l pre x W K ⟨⟨h1, h2, h4⟩, h3⟩ hK
          subst hA
          unfold encB
          gi_wp2
          exact hK _ _ ((KeepsOthers.alloc _ _).from _) ⟨(Below.refl _ W).alloc h3.size _, Below.heap_alloc W _ _ (heap_lt h4)⟩ ⟨⟨h1.kept (Kept.of_below ((Below.refl _ W).alloc (Nat.le_refl _) _) (fun _ => False)) (fun _ _ h => h), (Below.heap_alloc W _ _ (heap_lt h2)).trans h2, (Below.heap_alloc W _ _ (heap_lt h4)).trans h4⟩, h3.alloc h3.size _⟩ ⟨W.heap.size, World.alloc_heap_new W _, rfl⟩
        case body =>
          rintro l pre x a' W _ _ ⟨⟨h1, h2, h4⟩, h3⟩ ⟨Bx, hbx, rfl⟩ _
          subst hA
          have hbef := Before_f (by omega) (HCDO.out _ (memE x)) (foldB_lt HCDO.out pre m1 (by rw [HM1.out]; exact hm1))
          have hcall := CallsIn.inRound l ((callsIn_wide (n := 9 - 1 - 1 - 1)).2 (liveness_before.calls 10 _ _ _ _ _ _ (fun k => v1.ownBlock = some k) v1 _ _ w W h3 (h1.R0 (t := 4) (fun _ h => h)) hbef))
          have HCALL2 := Lib.hid hcall
          obtain ⟨i0, i1, i2, i3, i4, i5⟩ := cells6 hbx
          have n0 : W.cell? ⟨g10, 0, none⟩ = some v1 := (blk_cell h2 0).trans rfl
          have H1 := Lib.hid h1
          have H2 := Lib.hid h2
          have H3 := Lib.hid h3
          have H4 := Lib.hid h4
          clear hcall hbef h1 h2 h3 h4 hbx
          simp only [List.setIfInBounds_toArray, List.set_cons_succ, List.set_cons_zero]
          gi_wp2
          refine ⟨trivial, HCALL2.out.mono ?_⟩
          rintro e W' ⟨rfl, hR', hB', hK'⟩
          have HR' := Lib.hid hR'
          have HB' := Lib.hid hB'
          have HK' := Lib.hid hK'
          clear hR' hB' hK'
          gi_wp2
          have hcells : ∀ k, v1.ownBlock = some k → k < W.heap.size → ∃ cs t fr, W.heap[k]? = some (.cells cs t fr) := fun k hk _ => by
            obtain ⟨cs, hcs⟩ := H1.out.cells k hk; exact ⟨cs, _, _, hcs⟩
          have hne : ∀ k cs t, W.heap[k]? = some (.cells cs t (0, 0)) → t ≠ te 4 → ¬ v1.ownBlock = some k := fun k cs t hk ht hS => by
            obtain ⟨cs', hcs'⟩ := H1.out.cells k hS
            rw [hk] at hcs'; cases hcs'; exact ht rfl
          have h2' : W'.heap[g10]? = W.heap[g10]? := HK'.out.2 g10 (heap_lt H2.out) (hne _ _ _ H2.out (by decide))
          have h4' : W'.heap[wc.heap.size]? = W.heap[wc.heap.size]? := HK'.out.2 _ (heap_lt H4.out) (hne _ _ _ H4.out (by decide))
          exact ⟨keepsFrom_kept HK'.out hcells, ⟨below_between H3.out HB'.out HK'.out.1, h4'⟩, ⟨⟨by rw [foldB_snoc]; exact Own1.of_R0 (t := 4) HR'.out, h2'.trans H2.out, h4'.trans H4.out⟩, HB'.out⟩⟩
        case done =>
          rintro D ys W hD hys ⟨⟨h1, h2, h4⟩, h3⟩ hK
          subst hA
          have hfin : foldB m1 ys = cd.foldr befN m1 := by rw [foldB_map, hys, foldl_back]
          rw [hfin] at h1
          have hm2 : cd.foldr befN m1 < 2 ^ N := foldr_lt _ HCDO.out (by rw [HM1.out]; exact hm1)
          obtain ⟨A4, c4, ev1, hl4, hC4⟩ := Kd.R_reads (h1.R0 (t := 4) (ok := fun _ => True) (fun _ _ => trivial))
          have hlist := list_f (k := 70) (R := N) (by omega) hm2 (Nat.le_refl _)
          have hcall := liveness_set_list.calls 70 A4 c4 (rowN N (cd.foldr befN m1)) _ W hC4 hl4 hlist
          rw [← ev1] at hcall
          have HCALL3 := Lib.hid hcall
          have hans : listN (cd.foldr befN m1) = ans := by
            rw [HANS.out]
            unfold befoR
            rw [if_pos ⟨HO.out.symm, by omega, by omega, by omega, by rw [← HX.out]; omega⟩, ← HX.out, HM1.out, HM0.out, HCDE.out, HL.out]
            rfl
          have n0 : W.cell? ⟨g10, 0, none⟩ = some v1 := (blk_cell h2 0).trans rfl
          have H3 := Lib.hid h3
          have HKD := Lib.hid hK
          have HHA := Lib.hid hans
          clear hcall hlist h1 h2 h3 h4 hK hC4 hl4 ev1 hans hfin hys
          dsimp only
          go_wp2_with (first | (go_at_call 37; refine HCALL3.out.mono ?_; rintro e W4 ⟨v4, rfl, hR4, hB4⟩; have HR4 := Lib.hid hR4; have HB4 := Lib.hid hB4; clear hR4 hB4) | fail)
          refine ret_marks (Ds := [D]) (base := w.heap.size) ⟨by simp, fun E hE => ?_⟩ ?_
          · obtain rfl : E = D := by simpa using hE
            exact ⟨Nat.le_trans HBWD.out.size hD, (HB4.out.block _ (heap_lt HKD.out)).trans HKD.out⟩
          · intro w7 hb7 hk7
            refine ⟨_, results_tmp rfl _ _ _, _, rfl, ?_, ?_⟩
            · have hRR : Own1 3 W4 W.heap.size v4 ans := by rw [← HHA.out]; exact Own1.of_R0 (t := 3) HR4.out
              refine Own1.R0 (t := 3) (((hRR.lower H3.out.size).move fun k hk => ?_)) (fun _ _ => trivial)
              refine hk7 k fun E hE e => ?_
              obtain rfl : E = D := by simpa using hE
              subst e
              have h1 := (hRR.lt _ hk).1
              have h2 := heap_lt HKD.out
              omega
            · exact (H3.out.trans (HB4.out.mono H3.out.size)).trans hb7
        case stop =>
          rintro D c pre W _ _ h _
          exact h.elim
end Go.Proofs.Ythgodpmahdnnjaa
end
section
namespace Go.Proofs.Ythgodpmahdnnjaa
open Go.RowKit Go.Proofs.YthgodpmahdnnjaaW.PrintWords Go.Proofs.YthgodpmahdnnjaaW.PrintMore Go.Proofs.Ythgodpmahdnnjaa.H
def Tbls (n : Nat) (w : World) (g gi go_ gp : Nat) (fb : Array Value) (V : Nat → Nat → Value) : Prop :=
  w.heap[g]? = some (.cells fb 25 (0, 0)) ∧ w.heap[gi]? = some (.cells (rowF (V 0) n) 75 (0, 0)) ∧ w.heap[go_]? = some (.cells (rowF (V 1) n) 75 (0, 0)) ∧ w.heap[gp]? = some (.cells (rowF (V 2) n) 39 (0, 0))
theorem Tbls.kept {n : Nat} {w w1 : World} {g gi go_ gp : Nat} {fb : Array Value} {V : Nat → Nat → Value} {S : Nat → Prop} (h : Tbls n w g gi go_ gp fb V) (hk : Kept w w1 S) (hg : ¬ S g) (hi : ¬ S gi) (ho : ¬ S go_) (hp : ¬ S gp) : Tbls n w1 g gi go_ gp fb V :=
  ⟨(hk.2 g (heap_lt h.1) hg).trans h.1, (hk.2 gi (heap_lt h.2.1) hi).trans h.2.1, (hk.2 go_ (heap_lt h.2.2.1) ho).trans h.2.2.1, (hk.2 gp (heap_lt h.2.2.2) hp).trans h.2.2.2⟩
theorem Tbls.below {n : Nat} {w w1 : World} {g gi go_ gp : Nat} {fb : Array Value} {V : Nat → Nat → Value} (h : Tbls n w g gi go_ gp fb V) (hb : Below w.heap.size w w1) : Tbls n w1 g gi go_ gp fb V :=
  h.kept (S := fun _ => False) (Kept.of_below hb _) (fun h => h) (fun h => h) (fun h => h) (fun h => h)
theorem Tbls.cells {n : Nat} {w : World} {g gi go_ gp : Nat} {fb : Array Value} {V : Nat → Nat → Value} {a b c d : Value} (h : Tbls n w g gi go_ gp fb V) (hfb : fb = #[a, b, c, d]) : w.cell? ⟨g, 0, none⟩ = some a ∧ w.cell? ⟨g, 1, none⟩ = some b ∧ w.cell? ⟨g, 2, none⟩ = some c ∧ w.cell? ⟨g, 3, none⟩ = some d := by
  subst hfb; exact cells4 h.1
structure PhA (R : Nat) (B : List S43) (i1 i j : Nat) (L : Nat → Nat → List Int) : Prop where
  sets : ∀ b, b < B.length → L 0 b = (if b < i1 then rowN R 0 else []) ∧ L 1 b = (if b < i1 then rowN R 0 else [])
  work : L 3 0 = (List.range i).map fun b : Nat => (b : Int)
  free : L 4 0 = []
  prev : ∀ t, t < B.length → (∀ x ∈ L 2 t, 0 ≤ x ∧ x < B.length) ∧ (L 2 t).length ≤ 2 * i + j
  all : ∀ a, a < i → ∀ t ∈ succL (B.getD a z43), (a : Int) ∈ L 2 t.toNat
  some_ : ∀ t ∈ (succL (B.getD i z43)).take j, (i : Int) ∈ L 2 t.toNat
def upV {α : Type} (V : Nat → Nat → α) (t b : Nat) (v : α) : Nat → Nat → α := fun t' b' => if t' = t ∧ b' = b then v else V t' b'
theorem upV_self {α : Type} (V : Nat → Nat → α) (t b : Nat) (v : α) : upV V t b v t b = v := by simp [upV]
theorem upV_ne {α : Type} (V : Nat → Nat → α) {t b t' b' : Nat} (v : α) (h : t' ≠ t ∨ b' ≠ b) : upV V t b v t' b' = V t' b' := by unfold upV; rw [if_neg (by omega)]
theorem upV_row {α : Type} (V : Nat → Nat → α) {t b t' : Nat} (v : α) (h : t' ≠ t) : upV V t b v t' = V t' := by funext b'; exact upV_ne V v (.inl h)
theorem upV_eq {α : Type} (V : Nat → Nat → α) (t b : Nat) (v : α) : (fun i => if i = b then v else V t i) = upV V t b v t := by funext i; simp [upV]
theorem blk_ne {w : World} {a b : Nat} {cs ds : Array Value} {t u : TypeId} (h : w.heap[a]? = some (.cells cs t (0, 0))) (k : w.heap[b]? = some (.cells ds u (0, 0))) (hne : t ≠ u) : a ≠ b := fun e => by
  subst e; rw [h] at k; cases k; exact hne rfl
section
variable {n : Nat} {w : World} {g gi go_ gp : Nat} {fb : Array Value} {V : Nat → Nat → Value}
theorem Tbls.set0 (h : Tbls n w g gi go_ gp fb V) (hne : gi ≠ go_) (b : Nat) (v : Value) : Tbls n (w.setCell ⟨gi, b, none⟩ v) g gi go_ gp fb (upV V 0 b v) := by
  refine ⟨?_, ?_, ?_, ?_⟩
  · exact (Below.heap_setCell w ⟨gi, b, none⟩ v g (blk_ne h.1 h.2.1 (by decide))).trans h.1
  · rw [← upV_eq]; exact heap_set_row v h.2.1
  · rw [upV_row V v (by omega)]; exact (Below.heap_setCell w ⟨gi, b, none⟩ v go_ (fun e => hne e.symm)).trans h.2.2.1
  · rw [upV_row V v (by omega)]; exact (Below.heap_setCell w ⟨gi, b, none⟩ v gp (blk_ne h.2.2.2 h.2.1 (by decide))).trans h.2.2.2
theorem Tbls.set1 (h : Tbls n w g gi go_ gp fb V) (hne : gi ≠ go_) (b : Nat) (v : Value) : Tbls n (w.setCell ⟨go_, b, none⟩ v) g gi go_ gp fb (upV V 1 b v) := by
  refine ⟨?_, ?_, ?_, ?_⟩
  · exact (Below.heap_setCell w ⟨go_, b, none⟩ v g (blk_ne h.1 h.2.2.1 (by decide))).trans h.1
  · rw [upV_row V v (by omega)]; exact (Below.heap_setCell w ⟨go_, b, none⟩ v gi hne).trans h.2.1
  · rw [← upV_eq]; exact heap_set_row v h.2.2.1
  · rw [upV_row V v (by omega)]; exact (Below.heap_setCell w ⟨go_, b, none⟩ v gp (blk_ne h.2.2.2 h.2.2.1 (by decide))).trans h.2.2.2
theorem Tbls.set2 (h : Tbls n w g gi go_ gp fb V) (b : Nat) (v : Value) : Tbls n (w.setCell ⟨gp, b, none⟩ v) g gi go_ gp fb (upV V 2 b v) := by
  refine ⟨?_, ?_, ?_, ?_⟩
  · exact (Below.heap_setCell w ⟨gp, b, none⟩ v g (blk_ne h.1 h.2.2.2 (by decide))).trans h.1
  · rw [upV_row V v (by omega)]; exact (Below.heap_setCell w ⟨gp, b, none⟩ v gi (blk_ne h.2.1 h.2.2.2 (by decide))).trans h.2.1
  · rw [upV_row V v (by omega)]; exact (Below.heap_setCell w ⟨gp, b, none⟩ v go_ (blk_ne h.2.2.1 h.2.2.2 (by decide))).trans h.2.2.1
  · rw [← upV_eq]; exact heap_set_row v h.2.2.2
theorem Tbls.cong {V' : Nat → Nat → Value} (h : Tbls n w g gi go_ gp fb V) (h0 : V' 0 = V 0) (h1 : V' 1 = V 1) (h2 : V' 2 = V 2) : Tbls n w g gi go_ gp fb V' := by
  unfold Tbls; rw [h0, h1, h2]; exact h
theorem kept_set {w : World} {p : Nat} {S : Nat → Prop} (hp : S p) (i : Nat) (v : Value) : Kept w (w.setCell ⟨p, i, none⟩ v) S := (Kept.refl w S).setCell (.inl hp) v
theorem sets_new {R : Nat} {B : List S43} {s0 i : Nat} {wo w10 w11 : World} {L : Nat → Nat → List Int} {va vb : Value} (hlt : i < B.length) (htab : Tab B.length s0 wo V L) (htb : Tbls B.length w11 g gi go_ gp fb V) (hA : PhA R B i i 0 L)
    (h10 : Below wo.heap.size wo w10) (h11 : Below w10.heap.size w10 w11) (ha : Own1 0 w10 wo.heap.size va (rowN R 0)) (hb : Own1 1 w11 w10.heap.size vb (rowN R 0))
    (S0 : ∀ k, s0 ≤ k → k ≠ g ∧ k ≠ gi ∧ k ≠ go_ ∧ k ≠ gp) (hs0 : s0 ≤ wo.heap.size) (hgo : gi ≠ go_) :
    ∃ V' L', V' 3 0 = V 3 0 ∧ Tab B.length s0 ((w11.setCell ⟨gi, i, none⟩ va).setCell ⟨go_, i, none⟩ vb) V' L' ∧ Tbls B.length ((w11.setCell ⟨gi, i, none⟩ va).setCell ⟨go_, i, none⟩ vb) g gi go_ gp fb V' ∧ PhA R B (i + 1) i 0 L' := by
  have d0 : dom B.length 0 i := ⟨hlt, .inl (by omega)⟩
  have d1 : dom B.length 1 i := ⟨hlt, .inl (by omega)⟩
  have t1 : Tab B.length s0 w10 (upV V 0 i va) (upV L 0 i (rowN R 0)) := htab.upd d0 (Kept.of_below h10 _) (by rw [upV_self, upV_self]; exact ha.lower hs0) (fun k hk => by rw [upV_self] at hk; exact .inr (ha.lt k hk).1)
    (fun t' b' _ hne => ⟨upV_ne _ _ hne, upV_ne _ _ hne⟩)
  have t2 : Tab B.length s0 w11 (upV (upV V 0 i va) 1 i vb) (upV (upV L 0 i (rowN R 0)) 1 i (rowN R 0)) := t1.upd d1 (Kept.of_below h11 _) (by rw [upV_self, upV_self]; exact hb.lower (Nat.le_trans hs0 h10.size)) (fun k hk => by rw [upV_self] at hk; exact .inr (hb.lt k hk).1)
    (fun t' b' _ hne => ⟨upV_ne _ _ hne, upV_ne _ _ hne⟩)
  refine ⟨_, _, ?_, t2.kept (S := fun k => k < s0) ((kept_set ?_ i va).then_ (kept_set (S := fun k => k < s0) ?_ i vb) (fun k hk => .inl hk)) (fun k hk => .inl hk), (htb.set0 hgo i va).set1 hgo i vb, ?_⟩
  · rw [upV_ne _ _ (.inl (by omega)), upV_ne _ _ (.inl (by omega))]
  · rcases Nat.lt_or_ge gi s0 with h | h
    · exact h
    · exact absurd rfl (S0 gi h).2.1
  · rcases Nat.lt_or_ge go_ s0 with h | h
    · exact h
    · exact absurd rfl (S0 go_ h).2.2.1
  · refine ⟨fun b hb' => ?_, ?_, ?_, fun t ht => ?_, fun a ha t ht => ?_, fun t ht => by rw [List.take_zero] at ht; exact (List.not_mem_nil ht).elim⟩
    · have hs := hA.sets b hb'
      by_cases e : b = i
      · subst e
        rw [upV_ne _ _ (.inl (by omega)), upV_self, upV_self, if_pos (by omega)]; exact ⟨rfl, rfl⟩
      · rw [upV_ne _ _ (.inl (by omega)), upV_ne _ _ (.inr e), upV_ne _ _ (.inr e), upV_ne _ _ (.inl (by omega)), hs.1, hs.2]
        have : (b < i + 1) = (b < i) := by apply propext; omega
        simp only [this]; exact ⟨trivial, trivial⟩
    · rw [upV_ne _ _ (.inl (by omega)), upV_ne _ _ (.inl (by omega))]; exact hA.work
    · rw [upV_ne _ _ (.inl (by omega)), upV_ne _ _ (.inl (by omega))]; exact hA.free
    · rw [upV_ne _ _ (.inl (by omega)), upV_ne _ _ (.inl (by omega))]; exact hA.prev t ht
    · rw [upV_ne _ _ (.inl (by omega)), upV_ne _ _ (.inl (by omega))]; exact hA.all a ha t ht
theorem Tab.succs {s0 : Nat} {w w1 : World} {L : Nat → Nat → List Int} {v : Value} {l : List Int} (hn : 0 < n) (h : Tab n s0 w V L) (hb : Below w.heap.size w w1) (hs : s0 ≤ w.heap.size) (hv : Own1 5 w1 w.heap.size v l) : Tab n s0 w1 (upV V 5 0 v) (upV L 5 0 l) :=
  h.upd (t := 5) (b := 0) ⟨hn, .inr ⟨.inr (.inr rfl), rfl⟩⟩ (Kept.of_below hb _) (by rw [upV_self, upV_self]; exact hv.lower hs) (fun k hk => by rw [upV_self] at hk; exact .inr (hv.lt k hk).1) (fun t' b' _ hne => ⟨upV_ne _ _ hne, upV_ne _ _ hne⟩)
theorem PhA.up5 {R : Nat} {B : List S43} {i1 i j : Nat} {L : Nat → Nat → List Int} (h : PhA R B i1 i j L) (l : List Int) : PhA R B i1 i j (upV L 5 0 l) := by
  have e : ∀ t b, t < 5 → upV L 5 0 l t b = L t b := fun t b ht => upV_ne _ _ (.inl (by omega))
  refine ⟨fun b hb => ?_, ?_, ?_, fun t ht => ?_, fun a ha t ht => ?_, fun t ht => ?_⟩
  · rw [e 0 b (by omega), e 1 b (by omega)]; exact h.sets b hb
  · rw [e 3 0 (by omega)]; exact h.work
  · rw [e 4 0 (by omega)]; exact h.free
  · rw [e 2 t (by omega)]; exact h.prev t ht
  · rw [e 2 _ (by omega)]; exact h.all a ha t ht
  · rw [e 2 _ (by omega)]; exact h.some_ t ht
theorem Tab.grown {s0 : Nat} {w w1 : World} {L : Nat → Nat → List Int} {t b : Nat} {v : Value} {l : List Int} (h : Tab n s0 w V L) (hd : dom n t b) (hg : w.grownBy w1 (V t b).ownBlock) (hv : Own1 t w1 s0 v l) (ha : v.ownBlock = (V t b).ownBlock ∨ ∃ k, v.ownBlock = some k ∧ w.heap.size ≤ k) :
    Tab n s0 w1 (upV V t b v) (upV L t b l) :=
  h.upd hd (Kept.of_grown hg (Kept.refl w _) (fun k hk => .inl hk)) (by rw [upV_self, upV_self]; exact hv) (fun k hk => by
    rw [upV_self] at hk
    rcases ha with ha | ⟨k', ha, hle⟩
    · exact .inl (by rw [← ha]; exact hk)
    · rw [hk] at ha; cases ha; exact .inr hle) (fun t' b' _ hne => ⟨upV_ne _ _ hne, upV_ne _ _ hne⟩)
theorem Tbls.grown {s0 : Nat} {w w1 : World} {L : Nat → Nat → List Int} {t b : Nat} (htab : Tab n s0 w V L) (hd : dom n t b) (h : Tbls n w g gi go_ gp fb V) (hg : w.grownBy w1 (V t b).ownBlock) (S0 : ∀ k, s0 ≤ k → k ≠ g ∧ k ≠ gi ∧ k ≠ go_ ∧ k ≠ gp) : Tbls n w1 g gi go_ gp fb V := by
  have hl := (htab.own t b hd).lt
  exact h.kept (Kept.of_grown hg (Kept.refl w (fun k => (V t b).ownBlock = some k)) (fun k hk => .inl hk)) (fun hk => absurd rfl (S0 g (hl g hk).1).1) (fun hk => absurd rfl (S0 gi (hl gi hk).1).2.1) (fun hk => absurd rfl (S0 go_ (hl go_ hk).1).2.2.1) (fun hk => absurd rfl (S0 gp (hl gp hk).1).2.2.2)
theorem getD_get {l : List Int} {j : Nat} (hj : j < l.length) : l.getD j 0 = l[j] := by rw [List.getD_eq_getElem?_getD, List.getElem?_eq_getElem hj]; rfl
theorem pred_new {R : Nat} {B : List S43} {s0 i j t : Nat} {w w1 : World} {L : Nat → Nat → List Int} {v : Value} (hj : j < (succL (B.getD i z43)).length) (hx : (succL (B.getD i z43)).getD j 0 = (t : Int)) (ht : t < B.length) (hi : i < B.length)
    (htab : Tab B.length s0 w V L) (htb : Tbls B.length w g gi go_ gp fb V) (hA : PhA R B (i + 1) i j L) (hg : w.grownBy w1 (V 2 t).ownBlock) (hv : Own1 2 w1 s0 v (L 2 t ++ [(i : Int)])) (ha : v.ownBlock = (V 2 t).ownBlock ∨ ∃ k, v.ownBlock = some k ∧ w.heap.size ≤ k)
    (S0 : ∀ k, s0 ≤ k → k ≠ g ∧ k ≠ gi ∧ k ≠ go_ ∧ k ≠ gp) :
    ∃ V' L', V' 3 0 = V 3 0 ∧ V' 5 0 = V 5 0 ∧ L' 5 0 = L 5 0 ∧ Tab B.length s0 (w1.setCell ⟨gp, t, none⟩ v) V' L' ∧ Tbls B.length (w1.setCell ⟨gp, t, none⟩ v) g gi go_ gp fb V' ∧ PhA R B (i + 1) i (j + 1) L' := by
  have d2 : dom B.length 2 t := ⟨ht, .inl (by omega)⟩
  have hgp : gp < s0 := by
    rcases Nat.lt_or_ge gp s0 with h | h
    · exact h
    · exact absurd rfl (S0 gp h).2.2.2
  have h2 : ∀ a, upV L 2 t (L 2 t ++ [(i : Int)]) 2 a = if a = t then L 2 t ++ [(i : Int)] else L 2 a := fun a => by
    by_cases e : a = t
    · subst e; rw [upV_self, if_pos rfl]
    · rw [upV_ne _ _ (.inr e), if_neg e]
  have hmem : ∀ a x, x ∈ L 2 a → x ∈ upV L 2 t (L 2 t ++ [(i : Int)]) 2 a := fun a x hxa => by
    rw [h2]; split
    · rename_i e; subst e; exact List.mem_append.2 (.inl hxa)
    · exact hxa
  refine ⟨_, _, ?_, upV_ne _ _ (.inl (by omega)), upV_ne _ _ (.inl (by omega)), (htab.grown d2 hg hv ha).kept (S := fun k => k < s0) (kept_set (S := fun k => k < s0) hgp t v) (fun k hk => .inl hk), (Tbls.grown htab d2 htb hg S0).set2 t v, ?_⟩
  · rw [upV_ne _ _ (.inl (by omega))]
  · refine ⟨fun b hb => ?_, ?_, ?_, fun a ha => ?_, fun a ha x hx => hmem _ _ (hA.all a ha x hx), fun x hx' => ?_⟩
    · rw [upV_ne _ _ (.inl (by omega)), upV_ne _ _ (.inl (by omega))]; exact hA.sets b hb
    · rw [upV_ne _ _ (.inl (by omega))]; exact hA.work
    · rw [upV_ne _ _ (.inl (by omega))]; exact hA.free
    · have h := hA.prev a ha
      rw [h2]; split
      · rename_i e; subst e
        refine ⟨fun x hx => ?_, by simp; omega⟩
        rcases List.mem_append.1 hx with h1 | h1
        · exact h.1 x h1
        · have : x = (i : Int) := by simpa using h1
          omega
      · exact ⟨h.1, by omega⟩
    · rw [List.take_succ_eq_append_getElem hj] at hx'
      rcases List.mem_append.1 hx' with h1 | h1
      · exact hmem _ _ (hA.some_ x h1)
      · have e1 : x = (succL (B.getD i z43))[j] := by simpa using h1
        have e2 : x = (t : Int) := by
          rw [e1, ← hx]; exact (getD_get hj).symm
        rw [e2, Int.toNat_natCast, h2, if_pos rfl]; simp
theorem work_new {R : Nat} {B : List S43} {s0 i : Nat} {w w1 : World} {L : Nat → Nat → List Int} {v : Value} (hi : i < B.length)
    (htab : Tab B.length s0 w V L) (htb : Tbls B.length w g gi go_ gp fb V) (hA : PhA R B (i + 1) i (succL (B.getD i z43)).length L) (hg : w.grownBy w1 (V 3 0).ownBlock) (hv : Own1 3 w1 s0 v (L 3 0 ++ [(i : Int)])) (ha : v.ownBlock = (V 3 0).ownBlock ∨ ∃ k, v.ownBlock = some k ∧ w.heap.size ≤ k)
    (S0 : ∀ k, s0 ≤ k → k ≠ g ∧ k ≠ gi ∧ k ≠ go_ ∧ k ≠ gp) :
    ∃ V' L', V' 3 0 = v ∧ Tab B.length s0 w1 V' L' ∧ Tbls B.length w1 g gi go_ gp fb V' ∧ PhA R B (i + 1) (i + 1) 0 L' := by
  have d3 : dom B.length 3 0 := ⟨by omega, .inr ⟨.inl rfl, rfl⟩⟩
  refine ⟨_, _, upV_self _ _ _ _, htab.grown d3 hg hv ha, (Tbls.grown htab d3 htb hg S0).cong (upV_row _ _ (by omega)) (upV_row _ _ (by omega)) (upV_row _ _ (by omega)), ?_⟩
  refine ⟨fun b hb => ?_, ?_, ?_, fun t ht => ?_, fun a ha x hx => ?_, fun t ht => by rw [List.take_zero] at ht; exact (List.not_mem_nil ht).elim⟩
  · rw [upV_ne _ _ (.inl (by omega)), upV_ne _ _ (.inl (by omega))]; exact hA.sets b hb
  · rw [upV_self, hA.work, List.range_succ, List.map_append]; rfl
  · rw [upV_ne _ _ (.inl (by omega))]; exact hA.free
  · rw [upV_ne _ _ (.inl (by omega))]
    have := hA.prev t ht
    have h2 := succL_len (B.getD i z43)
    exact ⟨this.1, by omega⟩
  · rw [upV_ne _ _ (.inl (by omega))]
    by_cases e : a = i
    · subst e
      have := hA.some_
      rw [List.take_length] at this
      exact this x hx
    · exact hA.all a (by omega) x hx
end
end Go.Proofs.Ythgodpmahdnnjaa
end
section
namespace Go.Proofs.Ythgodpmahdnnjaa
open Go.RowKit Go.Proofs.YthgodpmahdnnjaaW.PrintWords Go.Proofs.YthgodpmahdnnjaaW.PrintMore Go.Proofs.Ythgodpmahdnnjaa.H
def FrS (vf vi vo vn vp vw : Value) (Ds : List Nat) (a : Act) : Prop := ∃ x : Nat → Value, a = { tmps := #[x 0, vf, vi, vo, vn, vp, vw, x 7, x 8, x 9, x 10, x 11, x 12, x 13, x 14, x 15, x 16, x 17, x 18, x 19, x 20, x 21, x 22, x 23, x 24, x 25, x 26, x 27, x 28, x 29, x 30, x 31, x 32, x 33, x 34, x 35, x 36, x 37, x 38, x 39, x 40, x 41, x 42, x 43, x 44, x 45, x 46, x 47, x 48, x 49, x 50, x 51, x 52, x 53, x 54, x 55, x 56, x 57, x 58, x 59, x 60, x 61, x 62, x 63, x 64, x 65, x 66, x 67, x 68, x 69, x 70, x 71, x 72, x 73, x 74, x 75, x 76, x 77, x 78, x 79, x 80, x 81, x 82, x 83, x 84, x 85, x 86, x 87, x 88, x 89, x 90, x 91, x 92, x 93, x 94, x 95, x 96, x 97, x 98, x 99, x 100, x 101, x 102, x 103, x 104, x 105, x 106, x 107, x 108, x 109, x 110, x 111, x 112, x 113, x 114, x 115, x 116, x 117, x 118, x 119, x 120, x 121, x 122, x 123, x 124, x 125, x 126, x 127, x 128, x 129, x 130, x 131, x 132, x 133, x 134, x 135, x 136, x 137, x 138, x 139, x 140, x 141, x 142, x 143], defers := marks Ds }
theorem FrS.intro (vf vi vo vn vp vw y0 y7 y8 y9 y10 y11 y12 y13 y14 y15 y16 y17 y18 y19 y20 y21 y22 y23 y24 y25 y26 y27 y28 y29 y30 y31 y32 y33 y34 y35 y36 y37 y38 y39 y40 y41 y42 y43 y44 y45 y46 y47 y48 y49 y50 y51 y52 y53 y54 y55 y56 y57 y58 y59 y60 y61 y62 y63 y64 y65 y66 y67 y68 y69 y70 y71 y72 y73 y74 y75 y76 y77 y78 y79 y80 y81 y82 y83 y84 y85 y86 y87 y88 y89 y90 y91 y92 y93 y94 y95 y96 y97 y98 y99 y100 y101 y102 y103 y104 y105 y106 y107 y108 y109 y110 y111 y112 y113 y114 y115 y116 y117 y118 y119 y120 y121 y122 y123 y124 y125 y126 y127 y128 y129 y130 y131 y132 y133 y134 y135 y136 y137 y138 y139 y140 y141 y142 y143 : Value) (Ds : List Nat) : FrS vf vi vo vn vp vw Ds { tmps := #[y0, vf, vi, vo, vn, vp, vw, y7, y8, y9, y10, y11, y12, y13, y14, y15, y16, y17, y18, y19, y20, y21, y22, y23, y24, y25, y26, y27, y28, y29, y30, y31, y32, y33, y34, y35, y36, y37, y38, y39, y40, y41, y42, y43, y44, y45, y46, y47, y48, y49, y50, y51, y52, y53, y54, y55, y56, y57, y58, y59, y60, y61, y62, y63, y64, y65, y66, y67, y68, y69, y70, y71, y72, y73, y74, y75, y76, y77, y78, y79, y80, y81, y82, y83, y84, y85, y86, y87, y88, y89, y90, y91, y92, y93, y94, y95, y96, y97, y98, y99, y100, y101, y102, y103, y104, y105, y106, y107, y108, y109, y110, y111, y112, y113, y114, y115, y116, y117, y118, y119, y120, y121, y122, y123, y124, y125, y126, y127, y128, y129, y130, y131, y132, y133, y134, y135, y136, y137, y138, y139, y140, y141, y142, y143], defers := marks Ds } :=
  ⟨fun i => (#[y0, undef, undef, undef, undef, undef, undef, y7, y8, y9, y10, y11, y12, y13, y14, y15, y16, y17, y18, y19, y20, y21, y22, y23, y24, y25, y26, y27, y28, y29, y30, y31, y32, y33, y34, y35, y36, y37, y38, y39, y40, y41, y42, y43, y44, y45, y46, y47, y48, y49, y50, y51, y52, y53, y54, y55, y56, y57, y58, y59, y60, y61, y62, y63, y64, y65, y66, y67, y68, y69, y70, y71, y72, y73, y74, y75, y76, y77, y78, y79, y80, y81, y82, y83, y84, y85, y86, y87, y88, y89, y90, y91, y92, y93, y94, y95, y96, y97, y98, y99, y100, y101, y102, y103, y104, y105, y106, y107, y108, y109, y110, y111, y112, y113, y114, y115, y116, y117, y118, y119, y120, y121, y122, y123, y124, y125, y126, y127, y128, y129, y130, y131, y132, y133, y134, y135, y136, y137, y138, y139, y140, y141, y142, y143] : Array Value).getD i undef, rfl⟩
structure PhB (R : Nat) (B : List S43) (P : Nat → List Int) (I O : Nat → Nat) (W X : List Int) (L : Nat → Nat → List Int) : Prop where
  sets : ∀ b, b < B.length → L 0 b = rowN R (I b) ∧ L 1 b = rowN R (O b)
  prev : ∀ t, t < B.length → L 2 t = P t
  work : L 3 0 = W
  hand : L 4 0 = X
theorem PhB.up5 {R : Nat} {B : List S43} {P : Nat → List Int} {I O : Nat → Nat} {W X : List Int} {L : Nat → Nat → List Int} (h : PhB R B P I O W X L) (l : List Int) : PhB R B P I O W X (upV L 5 0 l) := by
  have e : ∀ t b, t < 5 → upV L 5 0 l t b = L t b := fun t b ht => upV_ne _ _ (.inl (by omega))
  refine ⟨fun b hb => ?_, fun t ht => ?_, ?_, ?_⟩
  · rw [e 0 b (by omega), e 1 b (by omega)]; exact h.sets b hb
  · rw [e 2 t (by omega)]; exact h.prev t ht
  · rw [e 3 0 (by omega)]; exact h.work
  · rw [e 4 0 (by omega)]; exact h.hand
theorem PhB.up3 {R : Nat} {B : List S43} {P : Nat → List Int} {I O : Nat → Nat} {W X : List Int} {L : Nat → Nat → List Int} (h : PhB R B P I O W X L) (l : List Int) : PhB R B P I O l X (upV L 3 0 l) := by
  have e : ∀ t b, t ≠ 3 → upV L 3 0 l t b = L t b := fun t b ht => upV_ne _ _ (.inl (by omega))
  refine ⟨fun b hb => ?_, fun t ht => ?_, upV_self _ _ _ _, ?_⟩
  · rw [e 0 b (by omega), e 1 b (by omega)]; exact h.sets b hb
  · rw [e 2 t (by omega)]; exact h.prev t ht
  · rw [e 4 0 (by omega)]; exact h.hand
theorem PhB.up4 {R : Nat} {B : List S43} {P : Nat → List Int} {I O : Nat → Nat} {W X : List Int} {L : Nat → Nat → List Int} (h : PhB R B P I O W X L) (l : List Int) : PhB R B P I O W l (upV L 4 0 l) := by
  have e : ∀ t b, t ≠ 4 → upV L 4 0 l t b = L t b := fun t b ht => upV_ne _ _ (.inl (by omega))
  refine ⟨fun b hb => ?_, fun t ht => ?_, ?_, upV_self _ _ _ _⟩
  · rw [e 0 b (by omega), e 1 b (by omega)]; exact h.sets b hb
  · rw [e 2 t (by omega)]; exact h.prev t ht
  · rw [e 3 0 (by omega)]; exact h.work
theorem PhB.up1 {R : Nat} {B : List S43} {P : Nat → List Int} {I O : Nat → Nat} {W X : List Int} {L : Nat → Nat → List Int} (h : PhB R B P I O W X L) (b m : Nat) : PhB R B P I (upd O b m) W X (upV L 1 b (rowN R m)) := by
  refine ⟨fun a ha => ?_, fun t ht => ?_, ?_, ?_⟩
  · rw [upV_ne _ _ (.inl (by omega))]
    by_cases e : a = b
    · subst e; rw [upV_self, upd_self]; exact ⟨(h.sets a ha).1, rfl⟩
    · rw [upV_ne _ _ (.inr e), upd_ne _ e]; exact h.sets a ha
  · rw [upV_ne _ _ (.inl (by omega))]; exact h.prev t ht
  · rw [upV_ne _ _ (.inl (by omega))]; exact h.work
  · rw [upV_ne _ _ (.inl (by omega))]; exact h.hand
theorem PhB.up0 {R : Nat} {B : List S43} {P : Nat → List Int} {I O : Nat → Nat} {W X : List Int} {L : Nat → Nat → List Int} (h : PhB R B P I O W X L) (b m : Nat) : PhB R B P (upd I b m) O W X (upV L 0 b (rowN R m)) := by
  refine ⟨fun a ha => ?_, fun t ht => ?_, ?_, ?_⟩
  · rw [upV_ne (t' := 1) _ _ (.inl (by omega))]
    by_cases e : a = b
    · subst e; rw [upV_self, upd_self]; exact ⟨rfl, (h.sets a ha).2⟩
    · rw [upV_ne _ _ (.inr e), upd_ne _ e]; exact h.sets a ha
  · rw [upV_ne _ _ (.inl (by omega))]; exact h.prev t ht
  · rw [upV_ne _ _ (.inl (by omega))]; exact h.work
  · rw [upV_ne _ _ (.inl (by omega))]; exact h.hand
theorem Own1.raise {t : Nat} {w : World} {s0 s1 : Nat} {v : Value} {l : List Int} (h : Own1 t w s0 v l) (hs : ∀ k, v.ownBlock = some k → s1 ≤ k) : Own1 t w s1 v l := by
  refine ⟨h.1, h.2.imp id ?_⟩
  rintro ⟨g, cap, cur, rfl, hb, rest⟩
  exact ⟨g, cap, cur, rfl, hs g rfl, rest⟩
theorem upV_id {α : Type} (V : Nat → Nat → α) (t b : Nat) : upV V t b (V t b) = V := by
  funext t' b'; unfold upV; split
  · rename_i h; rw [h.1, h.2]
  · rfl
theorem upV_upV {α : Type} (V : Nat → Nat → α) (t b : Nat) (v u : α) : upV (upV V t b v) t b u = upV V t b u := by
  funext t' b'; unfold upV; split <;> rfl
theorem joinN_snoc (I : Nat → Nat) (m : Nat) (l : List Int) (t : Int) : joinN I m (l ++ [t]) = joinN I m l ||| I t.toNat := by simp [joinN]
section
variable {n s0 : Nat} {w w1 : World} {V : Nat → Nat → Value} {L : Nat → Nat → List Int}
theorem Tab.pop {g c : Nat} {W : List Int} (hn : 0 < n) (h : Tab n s0 w V L) (hv : (V 3 0).ownBlock = some g) (ho : Own1 3 w s0 (.slice (some ⟨g, 0, none⟩) W.length c) W) : Tab n s0 w (upV V 3 0 (.slice (some ⟨g, 0, none⟩) W.length c)) (upV L 3 0 W) :=
  h.upd (t := 3) (b := 0) ⟨hn, .inr ⟨.inl rfl, rfl⟩⟩ (Kept.refl _ _) (by rw [upV_self, upV_self]; exact ho) (fun k hk => by
    rw [upV_self] at hk; cases hk; exact .inl hv) (fun t' b' _ hne => ⟨upV_ne _ _ hne, upV_ne _ _ hne⟩)
theorem Tab.inplace {t b : Nat} {l : List Int} (hd : dom n t b) (h : Tab n s0 w V L) (hk : Kept w w1 (fun k => (V t b).ownBlock = some k)) (ho : Own1 t w1 s0 (V t b) l) : Tab n s0 w1 V (upV L t b l) :=
  h.upd hd hk (by rw [upV_self]; exact ho) (fun k hk => .inl hk) (fun t' b' _ hne => ⟨rfl, upV_ne _ _ hne⟩)
theorem Tab.newRow {t b : Nat} {v : Value} {l : List Int} (hd : dom n t b) (h : Tab n s0 w V L) (hb : Below w.heap.size w w1) (hs : s0 ≤ w.heap.size) (hv : Own1 t w1 w.heap.size v l) : Tab n s0 w1 (upV V t b v) (upV L t b l) :=
  h.upd hd (Kept.of_below hb _) (by rw [upV_self, upV_self]; exact hv.lower hs) (fun k hk => by rw [upV_self] at hk; exact .inr (hv.lt k hk).1) (fun t' b' _ hne => ⟨upV_ne _ _ hne, upV_ne _ _ hne⟩)
theorem Tbls.inplace {g gi go_ gp : Nat} {fb : Array Value} {t b : Nat} (hd : dom n t b) (htab : Tab n s0 w V L) (h : Tbls n w g gi go_ gp fb V) (hk : Kept w w1 (fun k => (V t b).ownBlock = some k)) (S0 : ∀ k, s0 ≤ k → k ≠ g ∧ k ≠ gi ∧ k ≠ go_ ∧ k ≠ gp) : Tbls n w1 g gi go_ gp fb V := by
  have hl := (htab.own t b hd).lt
  exact h.kept hk (fun hk => absurd rfl (S0 g (hl g hk).1).1) (fun hk => absurd rfl (S0 gi (hl gi hk).1).2.1) (fun hk => absurd rfl (S0 go_ (hl go_ hk).1).2.2.1) (fun hk => absurd rfl (S0 gp (hl gp hk).1).2.2.2)
theorem MarksOk.inplace {base : Nat} {Ds : List Nat} {t b : Nat} (hd : dom n t b) (htab : Tab n s0 w V L) (h : MarksOk w base Ds) (hk : Kept w w1 (fun k => (V t b).ownBlock = some k)) : MarksOk w1 base Ds :=
  h.kept hk fun k hk _ => by obtain ⟨cs, hcs⟩ := (htab.own t b hd).cells k hk; exact ⟨cs, _, _, hcs⟩
theorem MarksOk.below {base : Nat} {Ds : List Nat} (h : MarksOk w base Ds) (hb : Below w.heap.size w w1) : MarksOk w1 base Ds := h.kept (S := fun _ => False) (Kept.of_below hb _) (fun _ hk => hk.elim)
theorem MarksOk.set {base : Nat} {Ds : List Nat} {g : Nat} {cs : Array Value} {t : TypeId} (h : MarksOk w base Ds) (hg : w.heap[g]? = some (.cells cs t (0, 0))) (i : Nat) (v : Value) : MarksOk (w.setCell ⟨g, i, none⟩ v) base Ds :=
  h.kept (S := fun k => k = g) (kept_set (S := fun k => k = g) rfl i v) (fun k hk _ => by subst hk; exact ⟨cs, t, _, hg⟩)
theorem Tab.box {g i : Nat} {v : Value} {cs : Array Value} (h : Tab n s0 w V L) (hg : w.heap[g]? = some (.cells cs 75 (0, 0))) : Tab n s0 (w.setCell ⟨g, i, none⟩ v) V L :=
  ⟨fun t b hd => (h.own t b hd).move fun k hk => by
    obtain ⟨cs', hcs'⟩ := (h.own t b hd).cells k hk
    refine Below.heap_setCell w ⟨g, i, none⟩ v k fun e => ?_
    have e' : k = g := e
    subst e'
    rw [hg] at hcs'
    have hne : ∀ t, (75 : Nat) ≠ te t := fun t => by unfold te; split <;> decide
    injection hcs' with h1
    injection h1 with _ h2 _
    exact hne t h2, h.sep⟩
theorem Tbls.box {g gi go_ gp : Nat} {fb : Array Value} {p i : Nat} {v : Value} (h : Tbls n w g gi go_ gp fb V) (h1 : p ≠ g) (h2 : p ≠ gi) (h3 : p ≠ go_) (h4 : p ≠ gp) : Tbls n (w.setCell ⟨p, i, none⟩ v) g gi go_ gp fb V :=
  h.kept (S := fun k => k = p) (kept_set (S := fun k => k = p) rfl i v) (fun e => h1 e.symm) (fun e => h2 e.symm) (fun e => h3 e.symm) (fun e => h4 e.symm)
theorem MarksOk.cons {base D : Nat} {Ds : List Nat} (h : MarksOk w base Ds) (hb : base ≤ D) (hD : w.heap[D]? = some (.deferred (some []))) (hne : ∀ E ∈ Ds, E ≠ D) : MarksOk w base (D :: Ds) :=
  ⟨List.nodup_cons.2 ⟨fun hm => hne D hm rfl, h.1⟩, fun E hE => by
    rcases List.mem_cons.1 hE with rfl | hE
    · exact ⟨hb, hD⟩
    · exact h.2 E hE⟩
def Hand (n s0 : Nat) (w0 wm wx : World) (g gi go_ gp : Nat) (fb : Array Value) (V : Nat → Nat → Value) (L : Nat → Nat → List Int) (Ds : List Nat) (l : List Int) (gb : Nat) (vl : Value) : Prop :=
  wx.heap[gb]? = some (.cells #[vl] 75 (0, 0)) ∧ wm.heap.size ≤ gb ∧ Tab n s0 wx (upV V 4 0 vl) (upV L 4 0 l) ∧ Tbls n wx g gi go_ gp fb (upV V 4 0 vl) ∧ MarksOk wx w0.heap.size Ds ∧ Below w0.heap.size w0 wx ∧ s0 ≤ wx.heap.size
theorem Hand.new1 {w0 wm w8 : World} {g gi go_ gp : Nat} {fb : Array Value} {Ds : List Nat} {l : List Int} {vl : Value} (hn : 0 < n) (htab : Tab n s0 wm V L) (htb : Tbls n wm g gi go_ gp fb V) (hmk : MarksOk wm w0.heap.size Ds) (hbw : Below w0.heap.size w0 wm) (hwz : s0 ≤ wm.heap.size)
    (hb : Below wm.heap.size wm.drew w8) (ho : Own1 4 w8 wm.heap.size vl l) : Hand n s0 w0 wm (w8.alloc (.cells #[vl] 75)) g gi go_ gp fb V L Ds l w8.heap.size vl := by
  have hb8 : Below wm.heap.size wm w8 := (Below.refl _ wm).drew.trans hb
  have hba : Below wm.heap.size wm (w8.alloc (.cells #[vl] 75)) := hb8.alloc hb8.size _
  exact ⟨World.alloc_heap_new w8 _, hb8.size, (htab.newRow (t := 4) (b := 0) ⟨hn, .inr ⟨.inr (.inl rfl), rfl⟩⟩ hb8 hwz ho).below ((Below.refl _ w8).alloc (Nat.le_refl _) _), (htb.below hba).cong (upV_row _ _ (by omega)) (upV_row _ _ (by omega)) (upV_row _ _ (by omega)), hmk.below hba, hbw.trans (hba.mono hbw.size), Nat.le_trans hwz hba.size⟩
theorem Hand.new2 {w0 wm w9 : World} {g gi go_ gp : Nat} {fb : Array Value} {Ds : List Nat} {l : List Int} {vl : Value} {o : Obj} (hn : 0 < n) (htab : Tab n s0 wm V L) (htb : Tbls n wm g gi go_ gp fb V) (hmk : MarksOk wm w0.heap.size Ds) (hbw : Below w0.heap.size w0 wm) (hwz : s0 ≤ wm.heap.size)
    (hb : Below (wm.alloc o).heap.size (wm.alloc o).drew w9) (hnb : w9.heap[wm.heap.size]? = some (.cells #[.slice none 0 0] 75 (0, 0))) (ho : Own1 4 w9 (wm.alloc o).heap.size vl l) : Hand n s0 w0 wm (w9.setCell ⟨wm.heap.size, 0, none⟩ vl) g gi go_ gp fb V L Ds l wm.heap.size vl := by
  have hsz : (wm.alloc o).heap.size = wm.heap.size + 1 := alloc_size1 _ _
  have hb9 : Below wm.heap.size wm w9 := ((Below.refl _ wm).alloc (Nat.le_refl _) o).drew.trans (hb.mono (by omega))
  have htb9 := (htb.below hb9).cong (V' := upV V 4 0 vl) (upV_row _ _ (by omega)) (upV_row _ _ (by omega)) (upV_row _ _ (by omega))
  have h1 := heap_lt htb.1
  have h2 := heap_lt htb.2.1
  have h3 := heap_lt htb.2.2.1
  have h4 := heap_lt htb.2.2.2
  have hba : Below wm.heap.size wm (w9.setCell ⟨wm.heap.size, 0, none⟩ vl) := hb9.setCell (p := ⟨wm.heap.size, 0, none⟩) (Nat.le_refl _) vl
  refine ⟨blk_put hnb 0 vl rfl, Nat.le_refl _, (htab.newRow (t := 4) (b := 0) ⟨hn, .inr ⟨.inr (.inl rfl), rfl⟩⟩ hb9 hwz (ho.lower (by omega))).box hnb, htb9.box (by omega) (by omega) (by omega) (by omega), hmk.below hba, hbw.trans (hba.mono hbw.size), Nat.le_trans hwz hba.size⟩
end
end Go.Proofs.Ythgodpmahdnnjaa
end
section
namespace Go.Proofs.Ythgodpmahdnnjaa
open Go.RowKit Go.Proofs.YthgodpmahdnnjaaW.PrintWords Go.Proofs.YthgodpmahdnnjaaW.PrintMore Go.Proofs.Ythgodpmahdnnjaa.H
attribute [local go_sem] Oper.semAt_some
set_option maxHeartbeats 8000000 in
set_option maxRecDepth 100000 in
theorem solve_calls (nm : ByteArray) (R : Nat) (hR : R ≤ 30) (A2 : Option Addr) (c2 n2 : Nat) (A3 : Option Addr) (c3 : Nat) (B : List S43) (w : World)
    (hC3 : k43.C w A3 B.length B) (hc3 : B.length ≤ c3) (hn : B.length ≤ 30) (hcode : ∀ x ∈ B, x.f0.length ≤ 1000) (hF : OkF R B) :
    Calls Try.prog 36 #[.agg #[.string nm, .int .i64 R, .slice A2 n2 c2, .slice A3 B.length c3]] w
      fun e w' => ∃ (gi go_ : Nat) (V : Nat → Nat → Value) (I O : Nat → Nat), e = .returned (.tuple #[.slice (some ⟨gi, 0, none⟩) B.length B.length, .slice (some ⟨go_, 0, none⟩) B.length B.length]) ∧ SI R B I O [] ∧
        (∀ b, b < B.length → Own1 0 w' w.heap.size (V 0 b) (rowN R (I b)) ∧ Own1 1 w' w.heap.size (V 1 b) (rowN R (O b))) ∧
        w'.heap[gi]? = some (.cells (rowF (V 0) B.length) 75 (0, 0)) ∧ w'.heap[go_]? = some (.cells (rowF (V 1) B.length) 75 (0, 0)) ∧ Below w.heap.size w w' ∧ w.heap.size ≤ gi ∧ w.heap.size ≤ go_ := by
  have HC3 := Lib.hid hC3
  have HCD := Lib.hid hcode
  have HF := Lib.hid hF
  have hne : 0 < B.length := List.length_pos_iff.2 hF.ne
  clear hC3 hcode hF
  have hms := run_make_row' (P := Try.prog) 71 75 (.slice none 0 0) 24 Try.underlying71 (by kernel_rfl) rfl .i64 .i64 B.length (by omega) (by omega)
  have hmp := run_make_row' (P := Try.prog) 28 39 (.slice none 0 0) 24 Try.underlying28 (by kernel_rfl) rfl .i64 .i64 B.length (by omega) (by omega)
  rw [rowF_made] at hms hmp
  refine calls_of_wp_marks Try.func36 rfl ?_
  simp only [Try.ntmps36, List.size_toArray, List.length_cons, List.length_nil, Nat.reduceAdd, Nat.reduceSub, Array.replicate_succ, Array.replicate_zero, List.push_toArray, List.append_toArray, List.nil_append, List.cons_append]
  go_upto_region 2 with (first
    | ((with_reducible refine gate_dst (N := 1) rfl ?_); refine box_event ?hg (N := 1) ?hd (cs := #[.string nm, .int .i64 R, .slice A2 n2 c2, .slice A3 B.length c3]) (t := 25) ?hr ?_; (case hd => rfl); (case hg => rfl); (case hr => first | (go_simp; done) | (go_simp; rfl)); intro g hg w1 hbox hbw; have BK := Lib.hid hbox; have HBW := Lib.hid hbw; obtain ⟨z0, z1, z2, z3⟩ := cells4 hbox; clear hbox hbw; have HG := Lib.hid hg; clear hg)
    | fail)
  go_cut [2, 3] from 19 to 22 (fun v2 v3 wc => ∃ gi go_ : Nat, v2 = .slice (some ⟨gi, 0, none⟩) B.length B.length ∧ v3 = .slice (some ⟨go_, 0, none⟩) B.length B.length ∧ gi ≠ go_ ∧ w1.heap.size ≤ gi ∧ w1.heap.size ≤ go_ ∧ wc.heap[gi]? = some (.cells (rowF (fun _ => .slice none 0 0) B.length) 75 (0, 0)) ∧ wc.heap[go_]? = some (.cells (rowF (fun _ => .slice none 0 0) B.length) 75 (0, 0)) ∧ Below w1.heap.size w1 wc)
  case first =>
    go_region
    all_goals
      have hN : Below w1.heap.size w1 ((w1.alloc (Obj.cells (rowF (fun _ => .slice none 0 0) B.length) 75)).alloc (Obj.cells (rowF (fun _ => .slice none 0 0) B.length) 75)).drew := (((Below.refl _ w1).alloc (Nat.le_refl _) _).alloc (by simp) _).drew
      have h1 : ((w1.alloc (Obj.cells (rowF (fun _ => .slice none 0 0) B.length) 75)).alloc (Obj.cells (rowF (fun _ => .slice none 0 0) B.length) 75)).drew.heap[w1.heap.size]? = some (.cells (rowF (fun _ => .slice none 0 0) B.length) 75 (0, 0)) := (Below.heap_alloc _ _ _ (by simp)).trans (World.alloc_heap_new w1 _)
      have h2 : ((w1.alloc (Obj.cells (rowF (fun _ => .slice none 0 0) B.length) 75)).alloc (Obj.cells (rowF (fun _ => .slice none 0 0) B.length) 75)).drew.heap[w1.heap.size + 1]? = some (.cells (rowF (fun _ => .slice none 0 0) B.length) 75 (0, 0)) := by
        have := World.alloc_heap_new (w1.alloc (Obj.cells (rowF (fun _ => .slice none 0 0) B.length) 75)) (Obj.cells (rowF (fun _ => .slice none 0 0) B.length) 75)
        rw [alloc_size1] at this
        exact this
      have HN := Lib.hid hN
      have H1 := Lib.hid h1
      have H2 := Lib.hid h2
      clear hN h1 h2
      go_wp2_with fail
      go_meet
      case rel =>
        first
          | exact ⟨_, _, rfl, rfl, by omega, by omega, by omega, H1.out, H2.out, HN.out⟩
          | exact ⟨_, _, rfl, rfl, by omega, by omega, by omega, H2.out, H1.out, HN.out⟩
  case rest =>
    obtain ⟨gi, go_, rfl, rfl, hgo, hgi1, hgo1, hI0, hO0, hbc⟩ := hcut
    obtain ⟨wz, hwz⟩ : ∃ wz, wz = wc := ⟨_, rfl⟩
    have HI0 := Lib.hid hI0
    have HO0 := Lib.hid hO0
    have HBC := Lib.hid hbc
    have BK2 := Lib.hid (heap_below BK.out hbc)
    have hbase : w.heap.size ≤ w1.heap.size := HBW.out.size
    have HBZ := Lib.hid (HBW.out.trans (hbc.mono hbase))
    have hgl : g < w1.heap.size := heap_lt BK.out
    have hgw : w.heap.size ≤ g := by rw [HG.out]; exact Nat.le_refl _
    clear hI0 hO0 hbc hwz z0 z1 z2 z3 BK HBW HG
    go_wp2
    obtain ⟨gp, hgp⟩ : ∃ gp, gp = wc.heap.size := ⟨_, rfl⟩
    obtain ⟨wp, hwp⟩ : ∃ wp, wp = wc.alloc (Obj.cells (rowF (fun _ => .slice none 0 0) B.length) 39) := ⟨_, rfl⟩
    rw [← hwp, ← hgp]
    obtain ⟨fb, hfb⟩ : ∃ fb, fb = #[Value.string nm, .int .i64 R, .slice A2 n2 c2, .slice A3 B.length c3] := ⟨_, rfl⟩
    have hbp : Below wc.heap.size wc wp := by rw [hwp]; exact (Below.refl _ wc).alloc (Nat.le_refl _) _
    have hszp : wp.heap.size = gp + 1 := by rw [hwp, hgp]; exact alloc_size1 _ _
    have hgil : gi < gp := by rw [hgp]; exact heap_lt HI0.out
    have hgol : go_ < gp := by rw [hgp]; exact heap_lt HO0.out
    have hwcl : w1.heap.size ≤ gp := by omega
    have hT0 : Tbls B.length wp g gi go_ gp fb (fun _ _ => .slice none 0 0) := by
      refine ⟨by rw [hfb]; exact heap_below BK2.out hbp, heap_below HI0.out hbp, heap_below HO0.out hbp, ?_⟩
      rw [hwp, hgp]; exact World.alloc_heap_new wc _
    have hTab0 : Tab B.length wp.heap.size wp (fun _ _ => .slice none 0 0) (fun _ _ => []) := ⟨fun t b _ => Own1.nil _ _ _, fun t b t' b' _ _ _ k hk => by cases hk⟩
    have hA0 : PhA R B 0 0 0 (fun _ _ => []) := ⟨fun b _ => ⟨rfl, rfl⟩, rfl, rfl, fun t _ => ⟨fun x hx => (List.not_mem_nil hx).elim, Nat.zero_le _⟩, fun a ha => absurd ha (Nat.not_lt_zero _), fun t ht => by rw [List.take_zero] at ht; exact (List.not_mem_nil ht).elim⟩
    have hb0 : Below w.heap.size w wp := HBZ.out.trans (hbp.mono HBZ.out.size)
    have HT0 := Lib.hid hT0
    have HTAB0 := Lib.hid hTab0
    have HA0 := Lib.hid hA0
    have HB0 := Lib.hid hb0
    have HFB := Lib.hid hfb
    have HGP := Lib.hid hgp
    have HSZP := Lib.hid hszp
    clear hT0 hTab0 hA0 hb0 hfb hgp hwp hbp hszp hms hmp HI0 HO0 HBC BK2 HBZ
    have S0 := Lib.hid (show ∀ k, wp.heap.size ≤ k → k ≠ g ∧ k ≠ gi ∧ k ≠ go_ ∧ k ≠ gp by intro k hk; rw [HSZP.out] at hk; omega)
    go_loopg [6, 26] (B.length) (fun k v6 v26 wr => ∃ (i : Nat) (V : Nat → Nat → Value) (L : Nat → Nat → List Int), i ≤ B.length ∧ k = B.length - i ∧ v26 = .int .i64 i ∧ v6 = V 3 0 ∧ Tab B.length wp.heap.size wr V L ∧ Tbls B.length wr g gi go_ gp fb V ∧ PhA R B i i 0 L ∧ Below w.heap.size w wr ∧ wp.heap.size ≤ wr.heap.size)
    case atStart => exact ⟨0, _, _, Nat.zero_le _, rfl, rfl, rfl, HTAB0.out, HT0.out, HA0.out, HB0.out, Nat.le_refl _⟩
    case round =>
      obtain ⟨i, V, L, hi, rfl, rfl, rfl, htab, htb, hA, hbw, hsz⟩ := hrel
      obtain ⟨wo, rfl⟩ : ∃ wo, wo = wr := ⟨_, rfl⟩
      by_cases hlt : i < B.length
      · skip
        have z1 : wo.cell? ⟨g, 1, none⟩ = some (.int .i64 R) := by rw [HFB.out] at htb; exact (blk_cell htb.1 1).trans rfl
        have HTAB := Lib.hid htab
        have HTB := Lib.hid htb
        have HA := Lib.hid hA
        have HBW := Lib.hid hbw
        have HWZ := Lib.hid hsz
        clear htab htb hA hbw hsz HT0 HTAB0 HA0 HB0
        go_upto_region 8 with fail
        go_cut [7] from 27 to 67 (fun v7 wx => ∃ (V' : Nat → Nat → Value) (L' : Nat → Nat → List Int), v7 = .int .i64 i ∧ V' 3 0 = V 3 0 ∧ Tab B.length wp.heap.size wx V' L' ∧ Tbls B.length wx g gi go_ gp fb V' ∧ PhA R B (i + 1) i 0 L' ∧ Below w.heap.size w wx ∧ wp.heap.size ≤ wx.heap.size)
        case first =>
          have hR0 := newSet_f (R := R) (by omega)
          go_region_with (first
            | (go_at_call 40; refine (liveness_newSet.calls _ _ w10 hR0).mono ?_; rintro e w11 ⟨v11, rfl, hR11, hb11⟩; obtain ⟨A11, c11, rfl, hl11, _⟩ := Kd.R_reads hR11; have HR11 := Lib.hid hR11; have HT11 := Lib.hid (HT10.out.below hb11); have HB11 := Lib.hid hb11; clear hR11 hb11 hl11; obtain ⟨q1, fq1⟩ := cell_of_row HT11.out.2.1 (rowF_get hlt); obtain ⟨q2, fq2⟩ := cell_of_row HT11.out.2.2.1 (rowF_get hlt))
            | (go_at_call 40; refine (liveness_newSet.calls _ _ wo.drew hR0).mono ?_; rintro e w10 ⟨v10, rfl, hR10, hb10⟩; obtain ⟨A10, c10, rfl, hl10, _⟩ := Kd.R_reads hR10; have HR10 := Lib.hid hR10; have hb10' := (Below.refl wo.heap.size wo).drew.trans hb10; have HT10 := Lib.hid (HTB.out.below hb10'); have HB10 := Lib.hid hb10'; clear hR10 hb10 hb10' hl10; have z11 := (HT10.out.cells HFB.out).2.1)
            | fail)
          all_goals
            obtain ⟨V', L', e3, ht, hb, ha⟩ := sets_new hlt HTAB.out HT11.out HA.out HB10.out HB11.out (Own1.of_R0 (t := 0) HR10.out) (Own1.of_R0 (t := 1) HR11.out) S0.out HWZ.out hgo
            have HX := Lib.hid (show _ ∧ _ ∧ _ ∧ _ from ⟨e3, ht, hb, ha⟩)
            have hbx : Below w.heap.size w w11 := (HBW.out.trans (HB10.out.mono HBW.out.size)).trans (HB11.out.mono (HBW.out.trans (HB10.out.mono HBW.out.size)).size)
            have HBX := Lib.hid ((hbx.setCell (p := ⟨gi, i, none⟩) (show w.heap.size ≤ gi by omega) (.slice A10 (rowN R 0).length c10)).setCell (p := ⟨go_, i, none⟩) (show w.heap.size ≤ go_ by omega) (.slice A11 (rowN R 0).length c11))
            have HSX := Lib.hid (Nat.le_trans HWZ.out (Nat.le_trans HB10.out.size HB11.out.size))
            clear e3 ht hb ha hbx q1 fq1 q2 fq2
            go_wp2_with fail
            go_meet
            case rel => exact ⟨V', L', rfl, HX.out.1, HX.out.2.1, HX.out.2.2.1, HX.out.2.2.2, HBX.out, by simpa [World.setCell] using HSX.out⟩
        case rest =>
          obtain ⟨V', L', rfl, hv3, htab, htb, hA, hbw, hsz⟩ := hcut
          rw [← hv3]
          obtain ⟨wn, rfl⟩ : ∃ wn, wn = wc := ⟨_, rfl⟩
          clear HTAB HTB HA HBW HWZ
          have hmem := memB hlt
          have hOb := HF.out.b _ hmem
          have hcl := HCD.out _ hmem
          obtain ⟨ad, A0, c0, hA3, p0, p1, p2, p3, p4, hl0, hC0⟩ := at_T43 HC3.out (i : Int) (by omega) (by omega)
          subst hA3
          rw [Int.toNat_natCast] at p0 p1 p2 p3 p4
          have hrd : rd_T43 B (i : Int) = B.getD i z43 := by unfold rd_T43; rw [Int.toNat_natCast]
          rw [hrd] at p0 p1 p2 p3 p4 hl0 hC0
          obtain ⟨x, hx⟩ : ∃ x, x = B.getD i z43 := ⟨_, rfl⟩
          rw [← hx] at p0 p1 p2 p3 p4 hl0 hC0 hOb hcl
          have q0 := (World.cell?_of_block (hbw.block _ (World.block_lt_of_cell? w _ p0))).trans p0
          have q1 := (World.cell?_of_block (hbw.block _ (World.block_lt_of_cell? w _ p1))).trans p1
          have q2 := (World.cell?_of_block (hbw.block _ (World.block_lt_of_cell? w _ p2))).trans p2
          have q3 := (World.cell?_of_block (hbw.block _ (World.block_lt_of_cell? w _ p3))).trans p3
          have q4 := (World.cell?_of_block (hbw.block _ (World.block_lt_of_cell? w _ p4))).trans p4
          have HX := Lib.hid hx
          have HOB := Lib.hid hOb
          have HTAB := Lib.hid htab
          have HTB := Lib.hid htb
          have HA := Lib.hid hA
          have HBW := Lib.hid hbw
          have HWZ := Lib.hid hsz
          have HSU := Lib.hid (Succ_f x 1 (Nat.le_refl _))
          have HC0 := Lib.hid (Kd.C_below hC0 hbw)
          obtain ⟨z0, z1, z2, z3⟩ := htb.cells HFB.out
          clear p0 p1 p2 p3 p4 hC0 hx hOb htab htb hA hbw hsz hrd hmem
          go_wp2_with (first
            | (go_at_call 24; refine (ir_Succ.calls 1 A0 c0 x.f0 x.f1 x.f2 x.f3 x.f4 _ _ HC0.out hl0 HSU.out).mono ?_; rintro e w7 ⟨v7, rfl, hR7, hb7⟩; obtain ⟨A7, c7, rfl, hl7, _⟩ := Kd.R_reads hR7; have HR7 := Lib.hid hR7; have HB7 := Lib.hid hb7; clear hR7 hb7)
            | fail)
          have HTB7 := Lib.hid (HTB.out.below HB7.out)
          have HBW7 := Lib.hid (HBW.out.trans (HB7.out.mono HBW.out.size))
          have HWZ7 := Lib.hid (Nat.le_trans HWZ.out HB7.out.size)
          have hSl := succL_len x
          have hSok : ∀ q ∈ succL x, 0 ≤ q ∧ q < B.length := HOB.out.succ
          have hAx := HA.out
          obtain ⟨S, hS⟩ : ∃ S, S = succL x := ⟨_, rfl⟩
          have HSE := Lib.hid (show S = succL (B.getD i z43) by rw [hS, HX.out])
          rw [← hS] at HR7 hl7 hSl hSok ⊢
          have HSOK := Lib.hid hSok
          have HTAB7 := Lib.hid (HTAB.out.succs hne HB7.out HWZ.out (Own1.of_R0 (t := 5) HR7.out))
          have HI := Lib.hid (show (Try.prog.info? 3).map (fun i => (i.zero, i.size, i.bytes)) = some (some (.int .i64 0), 1, 8) by kernel_rfl)
          have hv3e : V 3 0 = V' 3 0 := hv3.symm
          rw [hv3e]
          have HV3 := Lib.hid hv3e
          clear hS hSok hAx hv3 hv3e q0 q1 q2 q3 q4 z0 z1 z2 z3 HTAB HTB HBW HWZ HC0 HSU
          go_loopw [48] (fun v wr => ∃ (j : Nat) (V2 : Nat → Nat → Value) (L2 : Nat → Nat → List Int), j ≤ S.length ∧ v = .int .i64 j ∧ V2 3 0 = V' 3 0 ∧ V2 5 0 = .slice A7 S.length c7 ∧ L2 5 0 = S ∧ Tab B.length wp.heap.size wr V2 L2 ∧ Tbls B.length wr g gi go_ gp fb V2 ∧ PhA R B (i + 1) i j L2 ∧ Below w.heap.size w wr ∧ wp.heap.size ≤ wr.heap.size) (fun v _ => S.length - (intOf v).toNat)
          case atStart => exact ⟨0, _, _, Nat.zero_le _, rfl, upV_ne _ _ (.inl (by omega)), upV_self _ _ _ _, upV_self _ _ _ _, HTAB7.out, HTB7.out.cong (upV_row _ _ (by omega)) (upV_row _ _ (by omega)) (upV_row _ _ (by omega)), HA.out.up5 _, HBW7.out, HWZ7.out⟩
          case round =>
            obtain ⟨j, V2, L2, hj, rfl, hv32, hv52, hl52, htab, htb, hA, hbw, hsz⟩ := hrel
            obtain ⟨wm, rfl⟩ : ∃ wm, wm = wr := ⟨_, rfl⟩
            have hS5 := htab.own 5 0 ⟨hne, .inr ⟨.inr (.inr rfl), rfl⟩⟩
            rw [hv52, hl52] at hS5
            obtain ⟨_, _, hcS⟩ := Kd.R_reads' (hS5.R0 (t := 5) (ok := fun _ => True) (fun _ _ => trivial))
            have HTAB := Lib.hid htab
            have HTB := Lib.hid htb
            have HA2 := Lib.hid hA
            have HBW := Lib.hid hbw
            have HWZ := Lib.hid hsz
            have HV32 := Lib.hid hv32
            have HV52 := Lib.hid hv52
            have HL52 := Lib.hid hl52
            clear hv32 hv52 hl52 htab htb hA hbw hsz hS5
            by_cases hjl : j < S.length
            · obtain ⟨a7, rfl, hq7⟩ := at_ints hcS j hjl
              have hqok := HSOK.out (S.getD j 0) (by rw [getD_get hjl]; exact List.getElem_mem hjl)
              obtain ⟨t, ht⟩ : ∃ t : Nat, S.getD j 0 = (t : Int) := ⟨(S.getD j 0).toNat, by omega⟩
              rw [ht] at hq7 hqok
              have htl : t < B.length := by omega
              obtain ⟨r1, fr1⟩ := cell_of_row HTB.out.2.2.2 (rowF_get htl)
              have hlen := (HA2.out.prev t htl).2
              have HT := Lib.hid ht
              have HOWN := Lib.hid (show wm.ownsRow wp.heap.size 3 1 (V2 2 t) (L2 2 t).length (nums .i64 (L2 2 t)) from HTAB.out.own 2 t ⟨htl, .inl (by omega)⟩)
              clear ht hcS
              go_wp2_with (first
                | (at_builtin; refine print_append_num (w0 := wm) wp.heap.size rfl _ _ 39 3 .i64 8 rfl Try.underlying39 HI.out (by omega) (V2 2 t) (L2 2 t) (i : Int) rfl rfl HOWN.out (Below.refl _ _) HWZ.out (by omega) ?_; intro v8 w8 hown8 hb8 hg8 hat8; have hown9 := hown8; rw [List.length_append] at hown9; obtain ⟨g8, k8, hv8⟩ := ownsRow_succ (k := (L2 2 t).length) hown9; clear hown9; subst hv8; have HO8 := Lib.hid hown8; have HG8 := Lib.hid hg8; have HAT8 := Lib.hid hat8; have HB8 := Lib.hid hb8; obtain ⟨r2, fr2⟩ := cell_of_row (Tbls.grown HTAB.out ⟨htl, .inl (by omega)⟩ HTB.out hg8 S0.out).2.2.2 (rowF_get htl); clear hown8 hb8 hg8 hat8)
                | fail)
              clear r1 fr1 r2 fr2 hq7
              go_roundw
              case rel =>
                have hws : w.heap.size ≤ wp.heap.size := by rw [HSZP.out]; omega
                obtain ⟨V3, L3, e3, e5, l5, ht, hb, ha⟩ := pred_new (by rw [← HSE.out]; exact hjl) (by rw [← HSE.out]; exact HT.out) htl hlt HTAB.out HTB.out HA2.out HG8.out (show Own1 2 w8 wp.heap.size _ (L2 2 t ++ [(i : Int)]) from HO8.out) HAT8.out S0.out
                exact ⟨j + 1, V3, L3, by omega, by go_num, e3.trans HV32.out, e5.trans HV52.out, l5.trans HL52.out, ht, hb, ha, (HBW.out.trans (HB8.out.mono hws)).setCell (p := ⟨gp, t, none⟩) (by show w.heap.size ≤ gp; omega) _, by have := HB8.out.size; have := HWZ.out; simp [World.setCell]; omega⟩
              case measure => simp [intOf]; omega
            · have e : j = S.length := by omega
              subst e
              have HLA := Lib.hid (show PhA R B (i + 1) i (succL (B.getD i z43)).length L2 by rw [← HSE.out]; exact HA2.out)
              have hwl : (L2 3 0).length ≤ 30 := by rw [HA2.out.work]; simp; omega
              have HOWN := Lib.hid (show wm.ownsRow wp.heap.size 3 1 (V' 3 0) (L2 3 0).length (nums .i64 (L2 3 0)) by rw [← HV32.out]; exact HTAB.out.own 3 0 ⟨hne, .inr ⟨.inl rfl, rfl⟩⟩)
              clear hcS
              go_wp2_with (first
                | (at_builtin; refine print_append_num (w0 := wm) wp.heap.size rfl _ _ 39 3 .i64 8 rfl Try.underlying39 HI.out (by omega) (V' 3 0) (L2 3 0) (i : Int) rfl rfl HOWN.out (Below.refl _ _) HWZ.out (by omega) ?_; intro v8 w8 hown8 hb8 hg8 hat8; have HO8 := Lib.hid hown8; have HG8 := Lib.hid hg8; have HAT8 := Lib.hid hat8; have HB8 := Lib.hid hb8; clear hown8 hb8 hg8 hat8)
                | fail)
              go_roundg (B.length - (i + 1))
              case rel =>
                have hws : w.heap.size ≤ wp.heap.size := by rw [HSZP.out]; omega
                obtain ⟨V3, L3, e3, ht, hb, ha⟩ := work_new hlt HTAB.out HTB.out HLA.out (HV32.out.symm ▸ HG8.out) (show Own1 3 w8 wp.heap.size v8 (L2 3 0 ++ [(i : Int)]) from HO8.out) (HV32.out.symm ▸ HAT8.out) S0.out
                exact ⟨i + 1, V3, L3, by omega, rfl, by go_num, e3.symm, ht, hb, ha, HBW.out.trans (HB8.out.mono hws), Nat.le_trans HWZ.out HB8.out.size⟩
              case measure => omega
      · have e : i = B.length := by omega
        subst e
        clear HT0 HTAB0 HA0 HB0
        obtain ⟨P, hP⟩ : ∃ P : Nat → List Int, P = L 2 := ⟨_, rfl⟩
        have hPB : PhB R B P (fun _ => 0) (fun _ => 0) ((List.range B.length).map fun b : Nat => (b : Int)) [] L := ⟨fun b hb => by have h := hA.sets b hb; rw [if_pos hb] at h; exact h, fun t _ => by rw [hP], hA.work, hA.free⟩
        have hPp : ∀ t, t < B.length → (∀ x ∈ P t, 0 ≤ x ∧ x < B.length) ∧ (P t).length ≤ 2 * B.length := fun t ht => by rw [hP]; have h := hA.prev t ht; exact ⟨h.1, by have := h.2; omega⟩
        have hPa : ∀ a, a < B.length → ∀ t ∈ succL (B.getD a z43), (a : Int) ∈ P t.toNat := fun a ha t ht => by rw [hP]; exact hA.all a ha t ht
        have hSI := SI.start_ (R := R) (B := B) (n := B.length) rfl
        have HPB := Lib.hid hPB
        have HPP := Lib.hid hPp
        have HPA := Lib.hid hPa
        have HSI := Lib.hid hSI
        have HTAB := Lib.hid htab
        have HTB := Lib.hid htb
        have HBW := Lib.hid hbw
        have HWZ := Lib.hid hsz
        have hrk : rank R B.length (fun _ => 0) * (2 * B.length + 1) + B.length ≤ 10000000000000 := by
          have h1 := rank_le R (fun _ => 0) B.length
          have h2 : 2 ^ R ≤ 2 ^ 30 := Nat.pow_le_pow_right (by decide) hR
          have h3 : B.length * 2 ^ R ≤ 30 * 2 ^ 30 := Nat.mul_le_mul hn h2
          have h4 : rank R B.length (fun _ => 0) * (2 * B.length + 1) ≤ (30 * 2 ^ 30) * 61 := Nat.mul_le_mul (Nat.le_trans h1 h3) (by omega)
          omega
        have HRK := Lib.hid hrk
        clear hPB hPp hPa hSI htab htb hbw hsz hA hP hrk
        go_wp2
        refine wp_loop_ghost_k (fun k a wr => ∃ (Ds : List Nat) (V : Nat → Nat → Value) (L : Nat → Nat → List Int) (I O : Nat → Nat) (W X : List Int), FrS (.pointer (some ⟨g, 0, none⟩)) (.slice (some ⟨gi, 0, none⟩) B.length B.length) (.slice (some ⟨go_, 0, none⟩) B.length B.length) (.int .i64 B.length) (.slice (some ⟨gp, 0, none⟩) B.length B.length) (V 3 0) Ds a ∧
          MarksOk wr w.heap.size Ds ∧ Tab B.length wp.heap.size wr V L ∧ Tbls B.length wr g gi go_ gp fb V ∧ PhB R B P I O W X L ∧ SI R B I O W ∧ Below w.heap.size w wr ∧ wp.heap.size ≤ wr.heap.size ∧ k = rank R B.length I * (2 * B.length + 1) + W.length ∧ k ≤ 10000000000000) (rank R B.length (fun _ => 0) * (2 * B.length + 1) + B.length) ?_ ?_
        · exact ⟨[], V, L, _, _, _, _, by apply FrS.intro, ⟨List.nodup_nil, by simp⟩, HTAB.out, HTB.out, HPB.out, HSI.out, HBW.out, HWZ.out, by simp, HRK.out⟩
        · intro gk a wr hI J K hJ hK
          clear HPB HSI HTAB HTB HBW HWZ HRK
          obtain ⟨Ds, V, L, I, O, W, X, ⟨x, rfl⟩, hmk, htab, htb, hPB, hSI, hbw, hsz, hgk, hgk2⟩ := hI
          have HMK := Lib.hid hmk
          have HTAB := Lib.hid htab
          have HTB := Lib.hid htb
          have HPB := Lib.hid hPB
          have HSI := Lib.hid hSI
          have HBW := Lib.hid hbw
          have HWZ := Lib.hid hsz
          have HGK := Lib.hid hgk
          have HGK2 := Lib.hid hgk2
          have HJ := Lib.hid hJ
          clear hmk htab htb hPB hSI hbw hsz hgk hgk2 hJ
          rcases List.eq_nil_or_concat W with rfl | ⟨W', y, hWW⟩
          · obtain ⟨Aw, cw, ew, _, _⟩ := Kd.R_reads ((HTAB.out.own 3 0 ⟨hne, .inr ⟨.inl rfl, rfl⟩⟩).R0 (t := 3) (ok := fun _ => True) (fun _ _ => trivial))
            rw [HPB.out.work] at ew
            rw [ew]
            go_wp2
            refine ret_marks (base := w.heap.size) HMK.out ?_
            intro w7 hb7 hk7
            have hws : w.heap.size ≤ wp.heap.size := by rw [HSZP.out]; omega
            have hcell : ∀ (k : Nat) (cs : Array Value) (t : TypeId), wr.heap[k]? = some (.cells cs t (0, 0)) → w7.heap[k]? = wr.heap[k]? := fun k cs t hk => hk7 k fun D hD e => by
              subst e; rw [(HMK.out.2 _ hD).2] at hk; cases hk
            have hown : ∀ t b l, dom B.length t b → Own1 t wr wp.heap.size (V t b) l → Own1 t w7 w.heap.size (V t b) l := fun t b l _ ho => (ho.lower hws).move fun k hk => by
              obtain ⟨cs, hcs⟩ := ho.cells k hk; exact hcell k cs _ hcs
            refine ⟨_, results_tmp2 rfl _ _ _, gi, go_, V, I, O, rfl, HSI.out, fun b hb => ?_, (hcell _ _ _ HTB.out.2.1).trans HTB.out.2.1, (hcell _ _ _ HTB.out.2.2.1).trans HTB.out.2.2.1, HBW.out.trans hb7, Nat.le_trans hbase hgi1, Nat.le_trans hbase hgo1⟩
            have d0 : dom B.length 0 b := ⟨hb, .inl (by omega)⟩
            have d1 : dom B.length 1 b := ⟨hb, .inl (by omega)⟩
            have hs := HPB.out.sets b hb
            exact ⟨hown 0 b _ d0 (by rw [← hs.1]; exact HTAB.out.own 0 b d0), hown 1 b _ d1 (by rw [← hs.2]; exact HTAB.out.own 1 b d1)⟩
          · rw [List.concat_eq_append] at hWW
            subst hWW
            have hybl := HSI.out.inW y (by simp)
            obtain ⟨b, rfl⟩ : ∃ b : Nat, y = (b : Int) := ⟨y.toNat, by omega⟩
            have hbl : b < B.length := by omega
            have ho3 := HTAB.out.own 3 0 ⟨hne, .inr ⟨.inl rfl, rfl⟩⟩
            rw [HPB.out.work] at ho3
            obtain ⟨gw, cw, ew, hcw, hgw2, qw, hpop⟩ := own_last ho3
            have hcut := cut_back (g := gw) hcw
            have hwlen : W'.length ≤ 10000000000000 := by
              have h1 := HGK.out; have h2 := HGK2.out; simp at h1; omega
            rw [ew]
            have HEW := Lib.hid ew
            have HPOP := Lib.hid hpop
            clear ho3 ew hpop hybl
            have b1 : decide ((0 : Int) < (W'.length : Int) + 1) = true := decide_eq_true (by omega)
            go_upto_region 19 with fail
            obtain ⟨V1, hV1⟩ : ∃ V1, V1 = upV V 3 0 (.slice (some ⟨gw, 0, none⟩) W'.length cw) := ⟨_, rfl⟩
            obtain ⟨L1, hL1⟩ : ∃ L1, L1 = upV L 3 0 W' := ⟨_, rfl⟩
            have hT1 : Tab B.length wp.heap.size wr V1 L1 := by rw [hV1, hL1]; exact HTAB.out.pop hne (by rw [HEW.out]; rfl) HPOP.out
            have hB1 : Tbls B.length wr g gi go_ gp fb V1 := by rw [hV1]; exact HTB.out.cong (upV_row _ _ (by omega)) (upV_row _ _ (by omega)) (upV_row _ _ (by omega))
            have hP1 : PhB R B P I O W' X L1 := by rw [hL1]; exact HPB.out.up3 W'
            have hV13 : V1 3 0 = .slice (some ⟨gw, 0, none⟩) W'.length cw := by rw [hV1]; exact upV_self _ _ _ _
            rw [← hV13]
            have HT1 := Lib.hid hT1
            have HB1 := Lib.hid hB1
            have HP1 := Lib.hid hP1
            clear hT1 hB1 hP1 hV13 hV1 hL1 HTAB HTB HPB HEW HPOP qw hcut b1
            have HHK := Lib.hid hK
            clear hK
            have hmem := memB hbl
            have hOb := HF.out.b _ hmem
            have hcl := HCD.out _ hmem
            obtain ⟨ad, A0, c0, hA3, p0, p1, p2, p3, p4, hl0, hC0⟩ := at_T43 HC3.out (b : Int) (by omega) (by omega)
            subst hA3
            rw [Int.toNat_natCast] at p0 p1 p2 p3 p4
            have hrd : rd_T43 B (b : Int) = B.getD b z43 := by unfold rd_T43; rw [Int.toNat_natCast]
            rw [hrd] at p0 p1 p2 p3 p4 hl0 hC0
            obtain ⟨y, hy⟩ : ∃ y, y = B.getD b z43 := ⟨_, rfl⟩
            rw [← hy] at p0 p1 p2 p3 p4 hl0 hC0 hOb hcl
            have hcells := fun (W1 : World) (hw : Below w.heap.size w W1) => And.intro ((World.cell?_of_block (hw.block _ (World.block_lt_of_cell? w _ p0))).trans p0) (And.intro ((World.cell?_of_block (hw.block _ (World.block_lt_of_cell? w _ p1))).trans p1) (And.intro ((World.cell?_of_block (hw.block _ (World.block_lt_of_cell? w _ p2))).trans p2) (And.intro ((World.cell?_of_block (hw.block _ (World.block_lt_of_cell? w _ p3))).trans p3) ((World.cell?_of_block (hw.block _ (World.block_lt_of_cell? w _ p4))).trans p4))))
            have HCELLS := Lib.hid hcells
            have HY := Lib.hid hy
            have HOB := Lib.hid hOb
            have HSU := Lib.hid (Succ_f y 1 (Nat.le_refl _))
            have HC0 := Lib.hid hC0
            clear p0 p1 p2 p3 p4 hcells hy hOb hC0 hrd hmem
            obtain ⟨q0, q1, q2, q3, q4⟩ := HCELLS.out wr HBW.out
            obtain ⟨z0, z1, z2, z3⟩ := HB1.out.cells HFB.out
            go_wp2_with (first
              | (go_at_call 24; refine (ir_Succ.calls 1 A0 c0 y.f0 y.f1 y.f2 y.f3 y.f4 _ _ (Kd.C_below HC0.out HBW.out) hl0 HSU.out).mono ?_; rintro e w7 ⟨v7, rfl, hR7, hb7⟩; obtain ⟨A7, c7, rfl, hl7, _⟩ := Kd.R_reads hR7; have HR7 := Lib.hid hR7; have HB7 := Lib.hid hb7; clear hR7 hb7)
              | fail)
            have hSl := succL_len y
            have hSok : ∀ q ∈ succL y, 0 ≤ q ∧ q < B.length := HOB.out.succ
            obtain ⟨S, hS⟩ : ∃ S, S = succL y := ⟨_, rfl⟩
            have HSE := Lib.hid (show S = succL (B.getD b z43) by rw [hS, HY.out])
            rw [← hS] at HR7 hl7 hSl hSok ⊢
            have HSOK := Lib.hid hSok
            obtain ⟨V2, hV2⟩ : ∃ V2, V2 = upV V1 5 0 (.slice A7 S.length c7) := ⟨_, rfl⟩
            obtain ⟨L2, hL2⟩ : ∃ L2, L2 = upV L1 5 0 S := ⟨_, rfl⟩
            have hT2 : Tab B.length wp.heap.size w7 V2 L2 := by rw [hV2, hL2]; exact HT1.out.succs hne HB7.out HWZ.out (Own1.of_R0 (t := 5) HR7.out)
            have hB2 : Tbls B.length w7 g gi go_ gp fb V2 := by rw [hV2]; exact (HB1.out.below HB7.out).cong (upV_row _ _ (by omega)) (upV_row _ _ (by omega)) (upV_row _ _ (by omega))
            have hP2 : PhB R B P I O W' X L2 := by rw [hL2]; exact HP1.out.up5 S
            have hV23 : V1 3 0 = V2 3 0 := by rw [hV2]; exact (upV_ne _ _ (.inl (by omega))).symm
            have hV25 : V2 5 0 = .slice A7 S.length c7 := by rw [hV2]; exact upV_self _ _ _ _
            have hL25 : L2 5 0 = S := by rw [hL2]; exact upV_self _ _ _ _
            have hT2' : Tab B.length wp.heap.size w7 V2 (upV L2 1 b (rowN R (joinN I (O b) (S.take 0)))) := by
              rw [List.take_zero, show joinN I (O b) [] = O b from rfl, ← (hP2.sets b hbl).2, upV_id]; exact hT2
            rw [hV23]
            have HT2 := Lib.hid hT2'
            have HB2 := Lib.hid hB2
            have HP2 := Lib.hid hP2
            have HV25 := Lib.hid hV25
            have HL25 := Lib.hid hL25
            have HMK7 := Lib.hid (HMK.out.below HB7.out)
            have HBW7 := Lib.hid (HBW.out.trans (HB7.out.mono HBW.out.size))
            have HWZ7 := Lib.hid (Nat.le_trans HWZ.out HB7.out.size)
            clear hT2 hT2' hB2 hP2 hV23 hV25 hL25 hV2 hL2 hS hSok HT1 HB1 HP1 q0 q1 q2 q3 q4 z0 z1 z2 z3 HMK HBW HWZ HSU
            go_loopw [89] (fun v wr => ∃ j : Nat, j ≤ S.length ∧ v = .int .i64 j ∧ Tab B.length wp.heap.size wr V2 (upV L2 1 b (rowN R (joinN I (O b) (S.take j)))) ∧ Tbls B.length wr g gi go_ gp fb V2 ∧ MarksOk wr w.heap.size Ds ∧ Below w.heap.size w wr ∧ wp.heap.size ≤ wr.heap.size) (fun v _ => S.length - (intOf v).toNat)
            case atStart => exact ⟨0, Nat.zero_le _, rfl, HT2.out, HB2.out, HMK7.out, HBW7.out, HWZ7.out⟩
            case round =>
              obtain ⟨j, hj, rfl, htab, htb, hmk, hbw, hsz⟩ := hrel
              obtain ⟨wm, rfl⟩ : ∃ wm, wm = wr := ⟨_, rfl⟩
              have hS5 := htab.own 5 0 ⟨hne, .inr ⟨.inr (.inr rfl), rfl⟩⟩
              rw [HV25.out, upV_ne _ _ (.inl (by omega)), HL25.out] at hS5
              obtain ⟨_, _, hcS⟩ := Kd.R_reads' (hS5.R0 (t := 5) (ok := fun _ => True) (fun _ _ => trivial))
              have HTAB := Lib.hid htab
              have HTB := Lib.hid htb
              have HMK := Lib.hid hmk
              have HBW := Lib.hid hbw
              have HWZ := Lib.hid hsz
              clear htab htb hmk hbw hsz hS5 HT2 HB2 HMK7 HBW7 HWZ7
              by_cases hjl : j < S.length
              · obtain ⟨a7, rfl, hq7⟩ := at_ints hcS j hjl
                have hqok := HSOK.out (S.getD j 0) (by rw [getD_get hjl]; exact List.getElem_mem hjl)
                obtain ⟨t, ht⟩ : ∃ t : Nat, S.getD j 0 = (t : Int) := ⟨(S.getD j 0).toNat, by omega⟩
                rw [ht] at hq7 hqok
                have htl : t < B.length := by omega
                obtain ⟨r1, _⟩ := cell_of_row HTB.out.2.2.1 (rowF_get hbl)
                obtain ⟨r2, _⟩ := cell_of_row HTB.out.2.1 (rowF_get htl)
                have d0 : dom B.length 0 t := ⟨htl, .inl (by omega)⟩
                have d1 : dom B.length 1 b := ⟨hbl, .inl (by omega)⟩
                have hws : w.heap.size ≤ wp.heap.size := by rw [HSZP.out]; omega
                have ho0 := HTAB.out.own 0 t d0
                rw [upV_ne _ _ (.inl (by omega)), (HP2.out.sets t htl).1] at ho0
                have ho1 := HTAB.out.own 1 b d1
                rw [upV_self] at ho1
                have hmj : joinN I (O b) (S.take j) < 2 ^ R := joinN_lt _ _ (HSI.out.lt b hbl).2 (fun q hq => (HSI.out.lt _ (by have := HSOK.out q (List.mem_of_mem_take hq); omega)).1)
                have hjn : joinN I (O b) (S.take (j + 1)) = joinN I (O b) (S.take j) ||| I t := by
                  rw [List.take_succ_eq_append_getElem hjl, joinN_snoc, ← getD_get hjl, ht, Int.toNat_natCast]
                have hjf := join_f (R := R) (k := 3) (by omega) hmj (HSI.out.lt t htl).1 (Nat.le_refl _)
                rw [← hjn] at hjf
                have hr0 := ho0.R0 (t := 0) (ok := fun k => (V2 0 t).ownBlock = some k) (fun _ h => h)
                obtain ⟨A1, c1, e0, hl1, _⟩ := Kd.R_reads hr0
                have hok : ∀ k, (V2 0 t).ownBlock = some k → ¬ (V2 1 b).ownBlock = some k := fun k hk => HTAB.out.sep 0 t 1 b d0 d1 (.inl (by omega)) k hk
                have hcall := liveness_set_join.calls 3 (fun k => (V2 1 b).ownBlock = some k) (V2 1 b) (rowN R (joinN I (O b) (S.take j))) A1 c1 (rowN R (I t)) _ w wm.drew HBW.out.drew ((ho1.lower hws).R0 (t := 1) (fun _ h => h)) (Kd.C_kept_own (by rw [← e0]; exact hr0) hok) hl1 hjf
                have hlb : ∀ k, (V2 1 b).ownBlock = some k → wp.heap.size ≤ k := fun k hk => (ho1.lt k hk).1
                rw [e0] at r2
                have HCALL := Lib.hid hcall
                have HLB := Lib.hid hlb
                clear ht hcS hcall hok hr0 hjf hjn ho0 ho1 hl1 e0 hlb
                go_upto_region 22 with fail
                go_still_tail 8, (by kernel_rfl)
                change wpList _ _ _ _ _ wm.drew
                go_wp2_with (first | (go_at_call 63; refine HCALL.out.mono ?_; rintro e w8 ⟨rfl, hR8, hb8, hk8⟩; have HR8 := Lib.hid hR8; have HB8 := Lib.hid hb8; have HK8 := Lib.hid (show Kept wm w8 (fun k => (V2 1 b).ownBlock = some k) from hk8); clear hR8 hb8 hk8) | fail)
                clear r1 r2 hq7
                go_roundw
                case rel =>
                  refine ⟨j + 1, by omega, by go_num, ?_, Tbls.inplace d1 HTAB.out HTB.out HK8.out S0.out, MarksOk.inplace d1 HTAB.out HMK.out HK8.out, HB8.out, Nat.le_trans HWZ.out HK8.out.1⟩
                  have := HTAB.out.inplace d1 HK8.out ((Own1.of_R0 (t := 1) HR8.out).raise HLB.out)
                  rw [upV_upV] at this
                  exact this
                case measure => simp [intOf]; omega
              · have e : j = S.length := by omega
                subst e
                rw [List.take_length] at HTAB
                have hout : joinN I (O b) S = outN B I O b := by unfold outN; rw [HSE.out]
                rw [hout] at HTAB
                have hmo : outN B I O b < 2 ^ R := HSI.out.outN_lt HF.out hbl
                obtain ⟨mo, hmoe⟩ : ∃ mo, mo = outN B I O b := ⟨_, rfl⟩
                rw [← hmoe] at HTAB hmo
                have HMO := Lib.hid hmoe
                have d1 : dom B.length 1 b := ⟨hbl, .inl (by omega)⟩
                have d4 : dom B.length 4 0 := ⟨hne, .inr ⟨.inr (.inl rfl), rfl⟩⟩
                have ho1 := HTAB.out.own 1 b d1
                rw [upV_self] at ho1
                obtain ⟨A1, c1, e1, hl1, hC1⟩ := Kd.R_reads (ho1.R0 (t := 1) (ok := fun _ => True) (fun _ _ => trivial))
                have hend := AtEnd_f (R := R) (by omega) HOB.out hmo
                have hcall := fun (W1 : World) (hb1 : Below wm.heap.size wm W1) => liveness_atEnd.calls A0 c0 y.f0 y.f1 y.f2 y.f3 y.f4 A1 c1 (rowN R mo) _ W1 (Kd.C_below (Kd.C_below HC0.out HBW.out) hb1) hl0 (Kd.C_below hC1 hb1) hl1 hend
                have HCALL := Lib.hid hcall
                obtain ⟨r1, _⟩ := cell_of_row HTB.out.2.2.1 (rowF_get hbl)
                rw [e1] at r1
                have HE1 := Lib.hid e1
                obtain ⟨q0, q1, q2, q3, q4⟩ := HCELLS.out wm HBW.out
                obtain ⟨z0, z1, z2, z3⟩ := HTB.out.cells HFB.out
                clear hcS hout hmoe ho1 hC1 hl1 hcall hend e1
                go_upto_region 24 with fail
                go_cut [13] from 68 to 141 (fun v13 wx => ∃ (gb : Nat) (vl : Value), v13 = .pointer (some ⟨gb, 0, none⟩) ∧ Hand B.length wp.heap.size w wm wx g gi go_ gp fb V2 (upV L2 1 b (rowN R mo)) Ds (rowN R (endN y mo)) gb vl)
                case first =>
                  have hal : Below wm.heap.size wm (wm.alloc (.cells #[.slice none 0 0] 75)).drew := ((Below.refl wm.heap.size wm).alloc (Nat.le_refl _) _).drew
                  obtain ⟨r1a, _⟩ := cell_of_row (HTB.out.below hal).2.2.1 (rowF_get hbl)
                  rw [HE1.out] at r1a
                  obtain ⟨q0a, q1a, q2a, q3a, q4a⟩ := HCELLS.out _ (HBW.out.trans (hal.mono HBW.out.size))
                  obtain ⟨z0a, z1a, z2a, z3a⟩ := (HTB.out.below hal).cells HFB.out
                  have HAL := Lib.hid hal
                  clear hal
                  go_region_with (first
                    | (go_at_call 42; refine (HCALL.out wm.drew (Below.refl _ _).drew).mono ?_; rintro e w8 ⟨v8, rfl, hR8, hb8⟩; obtain ⟨A8, c8, rfl, _, _⟩ := Kd.R_reads hR8; have HR8 := Lib.hid hR8; have HB8 := Lib.hid hb8; clear hR8 hb8)
                    | (go_at_call 42; refine (HCALL.out (wm.alloc (.cells #[.slice none 0 0] 75)).drew HAL.out).mono ?_; rintro e w9 ⟨v9, rfl, hR9, hb9⟩; obtain ⟨A9, c9, rfl, _, _⟩ := Kd.R_reads hR9; have hnb : w9.heap[wm.heap.size]? = some (.cells #[.slice none 0 0] 75 (0, 0)) := heap_below (w := (wm.alloc (.cells #[.slice none 0 0] 75)).drew) (World.alloc_heap_new wm _) hb9; have n0 : w9.cell? ⟨wm.heap.size, 0, none⟩ = some (.slice none 0 0) := (blk_cell hnb 0).trans rfl; have fn0 := blk_frozen hnb 0; have HNB := Lib.hid hnb; clear hnb; have HR9 := Lib.hid hR9; have HB9 := Lib.hid hb9; clear hR9 hb9)
                    | fail)
                  all_goals
                    first
                      | (have hX := Hand.new1 hne HTAB.out HTB.out HMK.out HBW.out HWZ.out HB8.out (Own1.of_R0 (t := 4) HR8.out)
                         have HX := Lib.hid hX
                         clear hX
                         go_wp2_with fail
                         go_meet
                         case rel => exact ⟨_, _, rfl, HX.out⟩)
                      | (have hX := Hand.new2 hne HTAB.out HTB.out HMK.out HBW.out HWZ.out HB9.out HNB.out (Own1.of_R0 (t := 4) HR9.out)
                         have HX := Lib.hid hX
                         clear hX
                         go_wp2_with fail
                         go_meet
                         case rel => exact ⟨_, _, rfl, HX.out⟩)
                case rest =>
                  obtain ⟨gb, vl, rfl, hgb, hgbl, htab, htb, hmk, hbw, hsz⟩ := hcut
                  obtain ⟨wx, rfl⟩ : ∃ wx, wx = wc := ⟨_, rfl⟩
                  clear HTAB HTB HMK q0 q1 q2 q3 q4 z0 z1 z2 z3 r1 HCALL
                  obtain ⟨V3, hV3⟩ : ∃ V3, V3 = upV V2 4 0 vl := ⟨_, rfl⟩
                  obtain ⟨L3, hL3⟩ : ∃ L3, L3 = upV L2 1 b (rowN R mo) := ⟨_, rfl⟩
                  have hV34 : V3 4 0 = vl := by rw [hV3]; exact upV_self _ _ _ _
                  have hV33 : V2 3 0 = V3 3 0 := by rw [hV3]; exact (upV_ne _ _ (.inl (by omega))).symm
                  have hP3 : PhB R B P I (upd O b mo) W' X L3 := by rw [hL3]; exact HP2.out.up1 b mo
                  rw [← hV3, ← hL3] at htab
                  rw [← hV3] at htb
                  rw [hV33]
                  have hwm : w.heap.size ≤ wm.heap.size := HBW.out.size
                  have HGB := Lib.hid hgb
                  have HTAB := Lib.hid htab
                  have HTB := Lib.hid htb
                  have HMK := Lib.hid hmk
                  have HWZm := Lib.hid HWZ.out
                  have HBW := Lib.hid hbw
                  have HWZ := Lib.hid hsz
                  have HV34 := Lib.hid hV34
                  have HP3 := Lib.hid hP3
                  clear hgb htab htb hmk hbw hsz hV34 hV33 hP3 hV3 hL3
                  obtain ⟨q0, q1, q2, q3, q4⟩ := HCELLS.out wx HBW.out
                  obtain ⟨z0, z1, z2, z3⟩ := HTB.out.cells HFB.out
                  have hC9 := (callsIn_wide (n := 0)).1 (back_in Fence.wide 0 trivial rfl A0 y.f0.length c0 wx)
                  go_wp2_with (first
                    | (go_at_call 43; refine hC9.mono ?_; rintro e wd ⟨rfl, hwd⟩; have HWD := Lib.hid hwd; clear hwd hC9)
                    | fail)
                  have hcd : Below wx.heap.size wx wd := by rw [HWD.out]; exact (Below.refl _ wx).alloc (Nat.le_refl _) _
                  have hszd : wd.heap.size = wx.heap.size + 1 := by rw [HWD.out]; exact alloc_size1 _ _
                  have HBS := Lib.hid (show wd.heap[wx.heap.size]? = some (.cells #[.slice A0 y.f0.length c0] 41 (0, 0)) by rw [HWD.out]; exact World.alloc_heap_new wx _)
                  have HTABd := Lib.hid (HTAB.out.below hcd)
                  have HTBd := Lib.hid (HTB.out.below hcd)
                  have HMKd := Lib.hid (HMK.out.below hcd)
                  have HBWD := Lib.hid (HBW.out.trans (hcd.mono HBW.out.size))
                  have HWZd := Lib.hid (Nat.le_trans HWZ.out hcd.size)
                  have HGBd := Lib.hid (heap_below HGB.out hcd)
                  have hws : w.heap.size ≤ wp.heap.size := by rw [HSZP.out]; omega
                  have ho4 := HTABd.out.own 4 0 d4
                  rw [upV_self, HV34.out] at ho4
                  have HO4 := Lib.hid ho4
                  have hm1 : endN y mo < 2 ^ R := endN_lt HOB.out hmo
                  obtain ⟨m1, hm1e⟩ : ∃ m1, m1 = endN y mo := ⟨_, rfl⟩
                  rw [← hm1e] at HO4 hm1
                  have HM1 := Lib.hid hm1e
                  have hcdo : ∀ i ∈ y.f0, OkI R i := HOB.out.code
                  have HCDO := Lib.hid hcdo
                  clear hcd ho4 q0 q1 q2 q3 q4 z0 z1 z2 z3 hcdo hm1e
                  refine with_act _ ?_
                  intro A hA
                  refine (wpIn_wide (n := 9)).1 ?_
                  refine wpIn_rangeFunc_ownH (F := Fence.wide) (n := 9) rfl (by decide) (gf := 67) (lb := #[.pointer (some ⟨wx.heap.size, 0, none⟩)]) (by rw [hA]; rfl) trivial (enters_of Try.func67 (by kernel_rfl) rfl)
                    (back_stops Fence.wide 8 trivial rfl (by decide) wx.heap.size w A0 c0 y.f0 HC0.out hcl wd HBWD.out HBS.out) (fun h k => KeepB.trans h k) (keepB_b HBWD.out.size (by omega)) (Below.refl _ _) (fun _ => rfl)
                    (fun pre W => (Own1 4 W w.heap.size vl (rowN R (foldB m1 pre)) ∧ W.heap[gb]? = some (.cells #[vl] 75 (0, 0)) ∧ W.heap[wx.heap.size]? = some (.cells #[.slice A0 y.f0.length c0] 41 (0, 0))) ∧ (Below w.heap.size w W ∧ Kept wd W (fun k => vl.ownBlock = some k))) (fun _ _ _ => False)
                    (OwnFrom.and (OwnFrom.and (Own.from (own_own1 4 w.heap.size (fun _ => vl) (fun pre => rowN R (foldB m1 pre))) _) (OwnFrom.and (Own.from (own_cells gb (fun _ => #[vl]) 75) _) (Own.from (own_cells wx.heap.size (fun _ => #[.slice A0 y.f0.length c0]) 41) _))) (OwnFrom.and (ownFrom_below (Nat.le_refl _) HBWD.out.size) (ownFrom_kept (Nat.le_refl _) (fun _ k => vl.ownBlock = some k))))
                    (fun _ _ _ _ _ hs _ _ => hs) ⟨⟨HO4.out.lower hws, HGBd.out, HBS.out⟩, HBWD.out, Kept.refl _ _⟩
                    (fun x a' W => ∃ Bx, W.heap[Bx]? = some (.cells #[.int .u8 x.1.2.f0, .int .i64 x.1.2.f1, .int .i64 x.1.2.f2, .int .i64 x.1.2.f3, .int .i64 x.1.2.f4, .string x.1.2.f5] 62 (0, 0)) ∧
                      a' = { tmps := ((A.tmps.setIfInBounds 120 (.int .i64 x.1.1)).setIfInBounds 121 (.agg #[.int .u8 x.1.2.f0, .int .i64 x.1.2.f1, .int .i64 x.1.2.f2, .int .i64 x.1.2.f3, .int .i64 x.1.2.f4, .string x.1.2.f5])).setIfInBounds 15 (.pointer (some ⟨Bx, 0, none⟩)), defers := [] })
                    (fun x a' _ X Y row hs hg hr => by obtain ⟨Bx, h1, h2⟩ := hs; exact ⟨Bx, own_cells Bx (fun (_ : Unit) => #[.int .u8 x.1.2.f0, .int .i64 x.1.2.f1, .int .i64 x.1.2.f2, .int .i64 x.1.2.f3, .int .i64 x.1.2.f4, .string x.1.2.f5]) 62 () X Y row h1 hg (fun r e => (hr r e).2), h2⟩)
                    ?assign ?body ?done ?stop
                  case assign =>
                    rintro l pre x W K ⟨⟨h1, h2, h4⟩, h3, h5⟩ hK
                    subst hA
                    unfold encB
                    gi_wp2
                    have hal : Below W.heap.size W (W.alloc (.cells #[.int .u8 x.1.2.f0, .int .i64 x.1.2.f1, .int .i64 x.1.2.f2, .int .i64 x.1.2.f3, .int .i64 x.1.2.f4, .string x.1.2.f5] 62)) := (Below.refl _ W).alloc (Nat.le_refl _) _
                    exact hK _ _ ((KeepsOthers.alloc _ _).from _) ⟨(Below.refl _ W).alloc h3.size _, Below.heap_alloc W _ _ (heap_lt h4)⟩ ⟨⟨h1.kept (Kept.of_below hal (fun _ => False)) (fun _ _ h => h), (Below.heap_alloc W _ _ (heap_lt h2)).trans h2, (Below.heap_alloc W _ _ (heap_lt h4)).trans h4⟩, h3.alloc h3.size _, h5.alloc _⟩ ⟨W.heap.size, World.alloc_heap_new W _, rfl⟩
                  case body =>
                    rintro l pre x a' W _ _ ⟨⟨h1, h2, h4⟩, h3, h5⟩ ⟨Bx, hbx, rfl⟩ _
                    subst hA
                    have hbef := Before_f (R := R) (by omega) (HCDO.out _ (memE x)) (foldB_lt HCDO.out pre m1 hm1)
                    have hcall := CallsIn.inRound l ((callsIn_wide (n := 9 - 1 - 1 - 1)).2 (liveness_before.calls 10 _ _ _ _ _ _ (fun k => vl.ownBlock = some k) vl _ _ w W h3 (h1.R0 (t := 4) (fun _ h => h)) hbef))
                    have HCALL2 := Lib.hid hcall
                    obtain ⟨i0, i1, i2, i3, i4, i5⟩ := cells6 hbx
                    have n0 : W.cell? ⟨gb, 0, none⟩ = some vl := (blk_cell h2 0).trans rfl
                    have H1 := Lib.hid h1
                    have H2 := Lib.hid h2
                    have H3 := Lib.hid h3
                    have H4 := Lib.hid h4
                    have H5 := Lib.hid h5
                    clear hcall hbef h1 h2 h3 h4 h5 hbx
                    simp only [List.setIfInBounds_toArray, List.set_cons_succ, List.set_cons_zero]
                    gi_wp2
                    refine ⟨trivial, HCALL2.out.mono ?_⟩
                    rintro e W2 ⟨rfl, hR', hB', hK'⟩
                    have HR' := Lib.hid hR'
                    have HB' := Lib.hid hB'
                    have HK' := Lib.hid hK'
                    clear hR' hB' hK'
                    gi_wp2
                    have hcells : ∀ k, vl.ownBlock = some k → k < W.heap.size → ∃ cs t fr, W.heap[k]? = some (.cells cs t fr) := fun k hk _ => by
                      obtain ⟨cs, hcs⟩ := H1.out.cells k hk; exact ⟨cs, _, _, hcs⟩
                    have hne : ∀ k cs t, W.heap[k]? = some (.cells cs t (0, 0)) → t ≠ te 4 → ¬ vl.ownBlock = some k := fun k cs t hk ht hS => by
                      obtain ⟨cs', hcs'⟩ := H1.out.cells k hS
                      rw [hk] at hcs'; cases hcs'; exact ht rfl
                    have h2' : W2.heap[gb]? = W.heap[gb]? := HK'.out.2 gb (heap_lt H2.out) (hne _ _ _ H2.out (by decide))
                    have h4' : W2.heap[wx.heap.size]? = W.heap[wx.heap.size]? := HK'.out.2 _ (heap_lt H4.out) (hne _ _ _ H4.out (by decide))
                    exact ⟨keepsFrom_kept HK'.out hcells, ⟨below_between H3.out HB'.out HK'.out.1, h4'⟩, ⟨⟨by rw [foldB_snoc]; exact Own1.of_R0 (t := 4) HR'.out, h2'.trans H2.out, h4'.trans H4.out⟩, HB'.out, H5.out.then_ HK'.out (fun k hk => .inl hk)⟩⟩
                  case done =>
                    rintro D ys W hD hys ⟨⟨h1, h2, h4⟩, h3, h5⟩ hK2
                    subst hA
                    obtain ⟨mv, hmv⟩ : ∃ mv, mv = liveN B I O b := ⟨_, rfl⟩
                    have hfin : foldB m1 ys = mv := by
                      rw [foldB_map, hys, foldl_back, hmv, HM1.out, HMO.out, HY.out]; rfl
                    rw [hfin] at h1
                    have hmvl : mv < 2 ^ R := by rw [hmv]; exact HSI.out.liveN_lt HF.out hbl
                    have hk4 : Kept wd W (fun k => (V3 4 0).ownBlock = some k) := by rw [HV34.out]; exact h5
                    have hv4l : ∀ k, vl.ownBlock = some k → wp.heap.size ≤ k := fun k hk => (HO4.out.lt k hk).1
                    have htab := HTABd.out.inplace d4 hk4 (by rw [HV34.out]; exact h1.raise hv4l)
                    rw [upV_upV] at htab
                    have htb := Tbls.inplace d4 HTABd.out HTBd.out hk4 S0.out
                    have hmk := (MarksOk.inplace d4 HTABd.out HMKd.out hk4).cons (Nat.le_trans HBWD.out.size hD) hK2 (fun E hE e => by have := heap_lt (HMKd.out.2 E hE).2; omega)
                    have hP := HP3.out.up4 (rowN R mv)
                    have hsz : wp.heap.size ≤ W.heap.size := Nat.le_trans HWZd.out h5.1
                    have d0 : dom B.length 0 b := ⟨hbl, .inl (by omega)⟩
                    have ho0 := htab.own 0 b d0
                    have hIb : upV L3 4 0 (rowN R mv) 0 b = rowN R (I b) := (hP.sets b hbl).1
                    rw [hIb] at ho0
                    obtain ⟨A4, c4, e4, hl4, hC4⟩ := Kd.R_reads (h1.R0 (t := 4) (ok := fun _ => True) (fun _ _ => trivial))
                    obtain ⟨A5, c5, e5, hl5, hC5⟩ := Kd.R_reads (ho0.R0 (t := 0) (ok := fun _ => True) (fun _ _ => trivial))
                    have heq := equal_f (R := R) (k := 3) (by omega) hmvl (HSI.out.lt b hbl).1 (Nat.le_refl _)
                    have hcall := liveness_set_equal.calls 3 A4 c4 (rowN R mv) A5 c5 (rowN R (I b)) _ W.drew hC4 hl4 hC5 hl5 heq
                    obtain ⟨r2, _⟩ := cell_of_row htb.2.1 (rowF_get hbl)
                    rw [e5] at r2
                    have n0 : W.cell? ⟨gb, 0, none⟩ = some vl := (blk_cell h2 0).trans rfl
                    rw [e4] at n0
                    have HTABw := Lib.hid htab
                    have HTBw := Lib.hid htb
                    have HMKw := Lib.hid hmk
                    have HPw := Lib.hid hP
                    have HGBw := Lib.hid h2
                    have HBWw := Lib.hid h3
                    have HWZw := Lib.hid hsz
                    have HMV := Lib.hid hmv
                    have HE4 := Lib.hid e4
                    clear h1 h2 h3 h4 h5 hys hfin hk4 hv4l htab htb hmk hP hsz ho0 hIb hl4 hC4 hl5 hC5 heq hmv e4 e5 hK2
                    dsimp only
                    by_cases he : mv = I b
                    · rw [show decide (mv = I b) = true from decide_eq_true he] at hcall
                      have HCALL3 := Lib.hid hcall
                      have HE := Lib.hid he
                      clear hcall he
                      go_upto_region 28 with fail
                      go_still_tail 5, (by kernel_rfl)
                      change wpList _ _ _ _ _ W.drew
                      go_wp2_with (first | (go_at_call 64; refine HCALL3.out.mono ?_; rintro e w8 ⟨rfl, hd8⟩; have HB8 := Lib.hid ((Below.refl W.heap.size W).drew.trans (show Below W.heap.size W.drew w8 from hd8.below)); clear hd8) | fail)
                      refine HHK.out _ _ (Handed.intro (rank R B.length I * (2 * B.length + 1) + W'.length) ?_ (HJ.out _ _ _ ⟨D :: Ds, V3, upV L3 4 0 (rowN R mv), I, upd O b mo, W', rowN R mv, by apply FrS.intro, HMKw.out.below HB8.out, HTABw.out.below HB8.out, HTBw.out.below HB8.out, HPw.out, ?_, HBWw.out.trans (HB8.out.mono HBWw.out.size), Nat.le_trans HWZw.out HB8.out.size, rfl, ?_⟩))
                      · have h1 := HGK.out; simp at h1; omega
                      · rw [HMO.out]; exact HSI.out.same HF.out hbl (by rw [← HMV.out]; exact HE.out)
                      · have h1 := HGK.out; have h2 := HGK2.out; simp at h1; omega
                    · rw [show decide (mv = I b) = false from decide_eq_false he] at hcall
                      have HCALL3 := Lib.hid hcall
                      have HE := Lib.hid he
                      clear hcall he
                      go_upto_region 28 with fail
                      go_still_tail 5, (by kernel_rfl)
                      change wpList _ _ _ _ _ W.drew
                      go_upto_region 30 with (first | (go_at_call 64; refine HCALL3.out.mono ?_; rintro e w8 ⟨rfl, hd8⟩; have HB8 := Lib.hid ((Below.refl W.heap.size W).drew.trans (show Below W.heap.size W.drew w8 from hd8.below)); clear hd8; obtain ⟨r5, fr5⟩ := cell_of_row (HTBw.out.below HB8.out).2.1 (rowF_get hbl); have n1 : w8.cell? ⟨gb, 0, none⟩ = some vl := (blk_cell (heap_below HGBw.out HB8.out) 0).trans rfl; rw [HE4.out] at n1) | fail)
                      obtain ⟨w9, hw9⟩ : ∃ w9, w9 = w8.setCell ⟨gi, b, none⟩ (.slice A4 (rowN R mv).length c4) := ⟨_, rfl⟩
                      rw [← hw9]
                      rw [← HE4.out] at hw9
                      have hgis : gi < wp.heap.size := by rw [HSZP.out]; omega
                      have hTab8 := HTABw.out.below HB8.out
                      have hTb8 := HTBw.out.below HB8.out
                      have hTab9 : Tab B.length wp.heap.size w9 V3 (upV L3 4 0 (rowN R mv)) := by
                        rw [hw9]; exact hTab8.kept (S := fun k => k < wp.heap.size) (kept_set (S := fun k => k < wp.heap.size) hgis b vl) (fun k hk => .inl hk)
                      have hTb9 : Tbls B.length w9 g gi go_ gp fb (upV V3 0 b vl) := by rw [hw9]; exact hTb8.set0 hgo b vl
                      have hMk9 : MarksOk w9 w.heap.size (D :: Ds) := by rw [hw9]; exact (HMKw.out.below HB8.out).set hTb8.2.1 b vl
                      have hBw9 : Below w.heap.size w w9 := by rw [hw9]; exact (HBWw.out.trans (HB8.out.mono HBWw.out.size)).setCell (p := ⟨gi, b, none⟩) (by show w.heap.size ≤ gi; omega) _
                      have hsz9 : wp.heap.size ≤ w9.heap.size := by rw [hw9]; have := Nat.le_trans HWZw.out HB8.out.size; simpa [World.setCell] using this
                      have hP9 := (HPw.out.up0 b mv).up4 []
                      have hT9 : Tab B.length wp.heap.size w9 (upV (upV V3 0 b vl) 4 0 (.slice none 0 0)) (upV (upV (upV L3 4 0 (rowN R mv)) 0 b (rowN R mv)) 4 0 []) :=
                        hTab9.give hbl ⟨by rw [upV_ne _ _ (.inl (by omega)), upV_self, HV34.out], by rw [upV_ne _ _ (.inl (by omega)), upV_self, upV_self]⟩ ⟨upV_self _ _ _ _, upV_self _ _ _ _⟩ (fun t' b' _ hne h4 => ⟨by rw [upV_ne _ _ (.inl h4), upV_ne _ _ hne], by rw [upV_ne _ _ (.inl h4), upV_ne _ _ hne]⟩)
                      obtain ⟨V4, hV4⟩ : ∃ V4, V4 = upV (upV V3 0 b vl) 4 0 (.slice none 0 0) := ⟨_, rfl⟩
                      obtain ⟨L4, hL4⟩ : ∃ L4, L4 = upV (upV (upV L3 4 0 (rowN R mv)) 0 b (rowN R mv)) 4 0 [] := ⟨_, rfl⟩
                      rw [← hV4, ← hL4] at hT9
                      rw [← hL4] at hP9
                      have hTb9' : Tbls B.length w9 g gi go_ gp fb V4 := by rw [hV4]; exact hTb9.cong (upV_row _ _ (by omega)) (upV_row _ _ (by omega)) (upV_row _ _ (by omega))
                      have hV43 : V3 3 0 = V4 3 0 := by rw [hV4, upV_ne _ _ (.inl (by omega)), upV_ne _ _ (.inl (by omega))]
                      have d2 : dom B.length 2 b := ⟨hbl, .inl (by omega)⟩
                      have d3 : dom B.length 3 0 := ⟨hne, .inr ⟨.inl rfl, rfl⟩⟩
                      have ho2 := hT9.own 2 b d2
                      rw [hP9.prev b hbl] at ho2
                      obtain ⟨Ap, cp, e6, hlp, hCp⟩ := Kd.R_reads (ho2.R0 (t := 2) (ok := fun _ => True) (fun _ _ => trivial))
                      have HRp := Lib.hid (show ReadsInt w9 .i64 Ap (P b).length (P b) from Kd.reads_of_C (d := (0 : Int)) hCp)
                      have ho3 := hT9.own 3 0 d3
                      rw [hP9.work] at ho3
                      have HO3 := Lib.hid (show w9.ownsRow wp.heap.size 3 1 (V4 3 0) W'.length (nums .i64 W') from ho3)
                      obtain ⟨r6, _⟩ := cell_of_row hTb9'.2.2.2 (rowF_get hbl)
                      rw [e6] at r6
                      rw [hV43]
                      have hPb := (HPP.out b hbl).2
                      have HI := Lib.hid (show (Try.prog.info? 3).map (fun i => (i.zero, i.size, i.bytes)) = some (some (.int .i64 0), 1, 8) by kernel_rfl)
                      have HT9 := Lib.hid hT9
                      have HTb9 := Lib.hid hTb9'
                      have HM9 := Lib.hid hMk9
                      have HB9 := Lib.hid hBw9
                      have HS9 := Lib.hid hsz9
                      have HP9 := Lib.hid hP9
                      clear hw9 hTab8 hTb8 hTab9 hTb9 hMk9 hBw9 hsz9 hP9 hT9 hV4 hL4 hTb9' hV43 ho2 hlp hCp e6 ho3 n0 r2
                      go_wp2_with (first
                        | (at_builtin; refine print_append_row (w0 := w9) wp.heap.size rfl _ _ 39 3 .i64 8 rfl Try.underlying39 HI.out (by omega) (V4 3 0) W' (P b) Ap (P b).length cp rfl rfl HO3.out HRp.out (Below.refl _ _) HS9.out (by omega) ?_; intro v10 w10 hown10 hb10 hg10 hat10; have HO10 := Lib.hid hown10; have HB10 := Lib.hid hb10; have HG10 := Lib.hid hg10; have HAT10 := Lib.hid hat10; clear hown10 hb10 hg10 hat10)
                        | fail)
                      have hTf := HT9.out.grown d3 HG10.out (show Own1 3 w10 wp.heap.size v10 (W' ++ P b) from HO10.out) HAT10.out
                      have hIlt : I b < mv := by
                        have h1 := HSI.out.le HF.out hbl
                        rw [← HMV.out] at h1
                        have h2 := HE.out
                        omega
                      have hr1 := rank_upd (R := R) hIlt hmvl B.length hbl
                      have hr2 : (rank R B.length (upd I b mv) + 1) * (2 * B.length + 1) ≤ rank R B.length I * (2 * B.length + 1) := Nat.mul_le_mul_right _ hr1
                      rw [Nat.add_mul, Nat.one_mul] at hr2
                      have hsi : SI R B (upd I b mv) (upd O b mo) (W' ++ P b) := by
                        rw [HMV.out, HMO.out]
                        exact HSI.out.push HF.out hbl (HPP.out b hbl).1 (fun a ha h => HPA.out a ha _ h)
                      have h1 := HGK.out
                      have h2 := HGK2.out
                      simp at h1
                      have hws : w.heap.size ≤ wp.heap.size := by rw [HSZP.out]; omega
                      refine HHK.out _ _ (Handed.intro (rank R B.length (upd I b mv) * (2 * B.length + 1) + (W' ++ P b).length) (by simp; omega) (HJ.out _ _ _ ⟨D :: Ds, upV V4 3 0 v10, upV L4 3 0 (W' ++ P b), upd I b mv, upd O b mo, W' ++ P b, [], by rw [upV_self]; apply FrS.intro, ?_, hTf, (Tbls.grown HT9.out d3 HTb9.out HG10.out S0.out).cong (upV_row _ _ (by omega)) (upV_row _ _ (by omega)) (upV_row _ _ (by omega)), HP9.out.up3 _, hsi, HB9.out.trans (HB10.out.mono hws), Nat.le_trans HS9.out HB10.out.size, rfl, by simp; omega⟩))
                      exact MarksOk.inplace d3 HT9.out HM9.out (Kept.of_grown HG10.out (Kept.refl w9 (fun k => (V4 3 0).ownBlock = some k)) (fun k hk => .inl hk))
                  case stop =>
                    rintro D c pre W _ _ h _
                    exact h.elim
end Go.Proofs.Ythgodpmahdnnjaa
end
