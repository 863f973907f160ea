/- Sets of whole numbers as the program keeps them: a map from int to bool in a block of the call's own. What such a block says, what a store does to it, how many members it has. -/
import Derived.Test.YtefkkgldlijbbaaProg
import Derived.Maps.RangeWalk
import Derived.WideKeyEntry
import Derived.Deep.Draws
import Derived.WalkKit
namespace Go.Proofs.Ytefkkgldlijbbaa
open Go.RowKit Go.Maps Go.MapKept

/-- The elements are bools. -/
noncomputable def elemB : Value → Option (DataW Unit × List MemPlace) := plainElem Try.prog 4
theorem keyedI : Keyed Try.prog 3 := int_keyed Try.underlying3
theorem keyI {x : Int} (h : (Lit.int .i64 x).wf = true) : keyOf Try.prog 3 (.int .i64 x) = some (.int .i64 x) := keyOf_int_mk Try.underlying3 h
theorem elemB_mk (x : Bool) : elemB (.bool x) = some (.lit (.bool x), []) := plainElem_bool Try.underlying4 x
theorem elemB_inv {v : Value} {y : DataW Unit × List MemPlace} (h : elemB v = some y) : ∃ c, v = .bool c := by
  unfold elemB plainElem at h
  rw [Try.underlying4] at h
  cases v <;> simp at h
  exact ⟨_, rfl⟩
theorem wfI {x : Int} (h0 : -9223372036854775808 ≤ x) (h1 : x ≤ 9223372036854775807) : (Lit.int .i64 x).wf = true := WalkArith.wf_i64 ⟨h0, h1⟩
theorem wfI_bounds {x : Int} (h : (Lit.int .i64 x).wf = true) : -9223372036854775808 ≤ x ∧ x ≤ 9223372036854775807 := by
  simp [Lit.wf, IntKind.min, IntKind.max, IntKind.signed, IntKind.bits] at h
  omega

/-- A place for a value at a key, then the value: together a store. -/
theorem ownsMap_entry {P : Program} {k e t : TypeId} {R : Value → Option (DataW Unit × List MemPlace)} {w : World} {b n : Nat} {D : DataW Unit} (h : w.ownsMap P k R b n D) (K : Keyed P k) (ht : P.underlying t = some (.map k e)) {z : Value} (hz : ∀ u : World, (zeroValue e).run P u = .ok z u)
    (hn : n < maxLen) {key val : Value} {kl : Lit} {d : DataW Unit} {ps : List MemPlace} (hkey : keyOf P k key = some kl) (hv : R val = some (d, ps)) :
    ∃ v0 st w1, (Instr.mapEntry t (.map (some b)) key).run P w = .ok (.tuple #[v0, goInt st]) w1 ∧ w.grownBy w1 (some b) ∧ w1.heap.size = w.heap.size ∧
      ∃ w2, (Instr.entryStore t (.map (some b)) (goInt st) val).run P w1 = .ok () w2 ∧ w2.ownsMap P k R b (n + 1) (D.put kl d) ∧ w.grownBy w2 (some b) ∧ w2.heap.size = w.heap.size := by
  obtain ⟨w', hrun, hown, hg⟩ := h.update K ht hn hkey hv
  obtain ⟨es, clock, hb, F, hs, rfl⟩ := h
  obtain ⟨s1, s2, _⟩ := (stamped_iff es clock).1 F.stamped
  have hset : ∀ o, w.grownBy (ChangeMaps.setBlock w b o) (some b) := fun o => ⟨rfl, rfl, rfl, by simp [ChangeMaps.setBlock], fun i _ hi => ChangeMaps.heap_setBlock_other hb _ (fun e => hi (by rw [e]))⟩
  have hsz : ∀ o, (ChangeMaps.setBlock w b o).heap.size = w.heap.size := fun o => by simp [ChangeMaps.setBlock]
  have hsame : ∀ o, (ChangeMaps.setBlock w b o).heap[b]? = some o := fun o => ChangeMaps.heap_setBlock_same hb _
  have htwo : ∀ o o', ChangeMaps.setBlock (ChangeMaps.setBlock w b o) b o' = ChangeMaps.setBlock w b o' := fun o o' => by simp [ChangeMaps.setBlock]
  have hstore : ∀ (u : World) (es1 : Array MapEntry) (c1 st j : Nat), u.heap[b]? = some (.map es1 c1) → es1.findIdx? (fun e => (e.born : Int) == (st : Int)) = some j →
      (Instr.entryStore t (.map (some b)) (goInt st) val).run P u = .ok () (ChangeMaps.setBlock u b (.map (es1.modify j (fun e => { e with val := val })) c1)) := fun u es1 c1 st j hu hj => by
    simp [Instr.entryStore, MapKept.run_getObj_map hu, asInt, asIntOf, goInt, hj, MapKept.run_setObj_map _ hu, Result.andThen, ChangeMaps.setBlock]
  have fin : ∀ es' clock', (Instr.mapUpdate t (.map (some b)) key val).run P w = .ok () (ChangeMaps.setBlock w b (.map es' clock')) → (ChangeMaps.setBlock w b (.map es' clock')).ownsMap P k R b (n + 1) ((DataW.map ((es.toList.map (WideElems.rg P k R)).foldr DataW.insert [])).put kl d) := fun es' clock' hr => by
    rw [hr] at hrun
    cases hrun
    exact hown
  rcases K.find w hkey es.toList F.keys with ⟨h1, h2⟩ | ⟨j, e0, h1, h2, h3⟩
  · have hidx : (es.push ⟨key, z, clock⟩).findIdx? (fun e => (e.born : Int) == (clock : Int)) = some es.size := by
      rw [Array.findIdx?_eq_some_iff_getElem]
      refine ⟨by simp, by simp, fun i hi => ?_⟩
      have hi' : i < es.size := by simpa using hi
      rw [Array.getElem_push_lt hi']
      have := s1 es[i] (by simp)
      simp only [beq_iff_eq]
      omega
    refine ⟨z, clock, ChangeMaps.setBlock w b (.map (es.push ⟨key, z, clock⟩) (clock + 1)), ?_, hset _, hsz _, ChangeMaps.setBlock w b (.map (es.push ⟨key, val, clock⟩) (clock + 1)), ?_, fin _ _ ?_, hset _, hsz _⟩
    · simp [Instr.mapEntry, run_underlying ht, MapKept.run_getObj_map hb, K.check w false hkey, h1, hz, MapKept.run_setObj_map _ hb, Result.andThen, ChangeMaps.setBlock]
    · have hmod : (es.push ⟨key, z, clock⟩).modify es.size (fun e => { e with val := val }) = es.push ⟨key, val, clock⟩ := by
        apply Array.ext_getElem?
        intro i
        rw [Array.getElem?_modify, Array.getElem?_push, Array.getElem?_push]
        by_cases hi : i = es.size
        · subst hi; simp
        · simp [hi, Ne.symm hi]
      rw [hstore _ _ _ _ _ (hsame _) hidx, hmod, htwo]
    · simp [Instr.mapUpdate, run_underlying ht, MapKept.run_getObj_map hb, K.check w false hkey, h1, MapKept.run_setObj_map _ hb, Result.andThen, ChangeMaps.setBlock]
  · have hj : es[j]? = some e0 := by simpa using h2
    have hje : ({ e0 with key := key } : MapEntry) = e0 := by rw [← h3]
    have hstay : es.modify j (fun e => { e with key := key }) = es := by
      apply Array.ext_getElem?
      intro i
      rw [Array.getElem?_modify]
      split
      · rename_i hi; subst hi; rw [hj]; simp [hje]
      · rfl
    have hidx : es.findIdx? (fun e => ((e.born : Nat) : Int) == ((e0.born : Nat) : Int)) = some j := by
      rw [WideElems.findIdx_arr]
      exact WideElems.findIdx_born s2 h2
    have hmod : es.modify j (fun e => { e with val := val }) = es.modify j (fun e' => { e' with key := key, val := val }) := by
      apply Array.ext_getElem?
      intro i
      rw [Array.getElem?_modify, Array.getElem?_modify]
      split
      · rename_i hi; subst hi; rw [hj]; simp [← h3]
      · rfl
    refine ⟨e0.val, e0.born, ChangeMaps.setBlock w b (.map es clock), ?_, hset _, hsz _, ChangeMaps.setBlock w b (.map (es.modify j (fun e' => { e' with key := key, val := val })) clock), ?_, fin _ _ ?_, hset _, hsz _⟩
    · simp [Instr.mapEntry, run_underlying ht, MapKept.run_getObj_map hb, K.check w false hkey, h1, hj, h3, K.stays w hkey, hstay, MapKept.run_setObj_map _ hb, Result.andThen, ChangeMaps.setBlock]
    · rw [hstore _ _ _ _ _ (hsame _) hidx, hmod, htwo]
    · simp [Instr.mapUpdate, run_underlying ht, MapKept.run_getObj_map hb, K.check w false hkey, h1, hj, h3, K.stays w hkey, MapKept.run_setObj_map _ hb, Result.andThen, ChangeMaps.setBlock]

/-- Block b is the set S, made by at most m stores. -/
def IsSet (w : World) (b m : Nat) (S : Int → Bool) : Prop :=
  ∃ n D, w.ownsMap Try.prog 3 elemB b n D ∧ n ≤ m ∧ ∀ x, (Lit.int .i64 x).wf = true → Maps.has D (.int .i64 x) = S x

theorem IsSet.mono {w : World} {b m m' : Nat} {S : Int → Bool} (h : IsSet w b m S) (hm : m ≤ m') : IsSet w b m' S := by
  obtain ⟨n, D, h1, h2, h3⟩ := h
  exact ⟨n, D, h1, by omega, h3⟩
theorem IsSet.congr {w : World} {b m : Nat} {S S' : Int → Bool} (h : IsSet w b m S) (hs : ∀ x, (Lit.int .i64 x).wf = true → S x = S' x) : IsSet w b m S' := by
  obtain ⟨n, D, h1, h2, h3⟩ := h
  exact ⟨n, D, h1, h2, fun x hx => (h3 x hx).trans (hs x hx)⟩
theorem IsSet.kept {w w' : World} {b m : Nat} {S : Int → Bool} {row : Option Nat} (h : IsSet w b m S) (hg : w.grownBy w' row) (hne : some b ≠ row) : IsSet w' b m S := by
  obtain ⟨n, D, h1, h2, h3⟩ := h
  exact ⟨n, D, h1.kept hg hne, h2, h3⟩
theorem IsSet.lt {w : World} {b m : Nat} {S : Int → Bool} (h : IsSet w b m S) : b < w.heap.size := by
  obtain ⟨n, D, h1, h2, h3⟩ := h
  exact h1.lt
theorem IsSet.below {w w' : World} {b m B : Nat} {S : Int → Bool} (h : IsSet w b m S) (hb : Below B w w') (hlt : b < B) : IsSet w' b m S := by
  obtain ⟨n, D, h1, h2, h3⟩ := h
  obtain ⟨es, clock, hbl, r⟩ := h1
  exact ⟨n, D, ⟨es, clock, (hb.block b hlt).trans hbl, r⟩, h2, h3⟩
/-- The same block as it lay. -/
theorem IsSet.same {w w' : World} {b m : Nat} {S : Int → Bool} (h : IsSet w b m S) (hb : w'.heap[b]? = w.heap[b]?) : IsSet w' b m S := by
  obtain ⟨n, D, h1, h2, h3⟩ := h
  obtain ⟨es, clock, hbl, r⟩ := h1
  exact ⟨n, D, ⟨es, clock, hb.trans hbl, r⟩, h2, h3⟩
theorem isSet_made (w : World) : IsSet (w.alloc (.map #[] 0)) w.heap.size 0 (fun _ => false) :=
  ⟨0, _, World.ownsMap_made w _ _ _, Nat.le_refl _, fun _ _ => rfl⟩

theorem has_put_int {D : DataW Unit} (hD : Maps.IsMap D) (y x : Int) (d : DataW Unit) : Maps.has (D.put (.int .i64 y) d) (.int .i64 x) = (x == y || Maps.has D (.int .i64 x)) := by
  by_cases h : x = y
  · subst h; rw [Maps.has_put_same hD (show WideAt.IsKeyLit (.int .i64 x) from trivial)]; simp
  · rw [Maps.has_put_other (by simpa using h)]
    simp [h]

/-- A member more, by an entry's two steps. -/
theorem IsSet.entry {w : World} {b m : Nat} {S : Int → Bool} (h : IsSet w b m S) (hm : m < maxLen) (y : Int) (hy : (Lit.int .i64 y).wf = true) :
    ∃ v0 st w1, (Instr.mapEntry 29 (.map (some b)) (.int .i64 y)).run Try.prog w = .ok (.tuple #[v0, goInt st]) w1 ∧ w.grownBy w1 (some b) ∧ w1.heap.size = w.heap.size ∧
      ∃ w2, (Instr.entryStore 29 (.map (some b)) (goInt st) (.bool true)).run Try.prog w1 = .ok () w2 ∧ IsSet w2 b (m + 1) (fun x => x == y || S x) ∧ w.grownBy w2 (some b) ∧ w2.heap.size = w.heap.size := by
  obtain ⟨n, D, h1, h2, h3⟩ := h
  obtain ⟨v0, st, w1, r1, g1, s1, w2, r2, o2, g2, s2⟩ := ownsMap_entry (z := .bool false) h1 keyedI Try.underlying29 (fun u => by kernel_rfl) (by omega) (keyI hy) (elemB_mk true)
  exact ⟨v0, st, w1, r1, g1, s1, w2, r2, ⟨_, _, o2, by omega, fun x hx => by rw [has_put_int h1.isMap, h3 x hx]⟩, g2, s2⟩

/-- How many members a set of numbers below N has. -/
theorem IsSet.size {w : World} {b m N : Nat} {S : Int → Bool} (h : IsSet w b m S) (hN : N ≤ 1000000) (hS : ∀ x, S x = true → 0 ≤ x ∧ x < N) :
    ∃ n D, w.ownsMap Try.prog 3 elemB b n D ∧ n ≤ m ∧ (∀ x, (Lit.int .i64 x).wf = true → Maps.has D (.int .i64 x) = S x) ∧ Maps.size D = (List.range N).countP (fun i : Nat => S i) := by
  obtain ⟨n, D, h1, h2, h3⟩ := h
  refine ⟨n, D, h1, h2, h3, ?_⟩
  have hint : ∀ kl, Maps.has D kl = true → ∃ x, kl = .int .i64 x ∧ (Lit.int .i64 x).wf = true := by
    intro kl hk
    obtain ⟨es, clock, hb, F, hs, rfl⟩ := h1
    obtain ⟨p, hp, hpk⟩ := List.any_eq_true.1 hk
    obtain ⟨e, he, rfl⟩ := List.mem_map.1 (mem_sorted.1 hp)
    obtain ⟨y, hy⟩ := F.reads e he
    rw [WideElems.rg_of hy] at hpk
    obtain ⟨x, _, hx, hw⟩ := Maps.keyOf_int_inv Try.underlying3 (WideElems.rd_key hy)
    exact ⟨x, by rw [← WideAt.sameKey_eq hpk, hx], hw⟩
  obtain ⟨es, rfl, hpw, hkey⟩ := h1.entries keyedI
  have hmem : ∀ kl, Maps.has (.map es) kl = true ↔ kl ∈ es.map (·.1) := by
    intro kl
    constructor
    · intro hk
      obtain ⟨p, hp, hpk⟩ := List.any_eq_true.1 hk
      exact List.mem_map.2 ⟨p, hp, WideAt.sameKey_eq hpk⟩
    · intro hk
      obtain ⟨p, hp, rfl⟩ := List.mem_map.1 hk
      exact List.any_eq_true.2 ⟨p, hp, WideAt.sameKey_self (hkey p hp)⟩
  have hnd : (es.map (·.1)).Nodup := by
    unfold List.Nodup
    rw [List.pairwise_map]
    exact hpw
  have hperm : (es.map (·.1)).Perm (((List.range N).filter (fun i : Nat => S i)).map (fun i : Nat => Lit.int .i64 i)) := by
    rw [List.perm_ext_iff_of_nodup hnd (by
      unfold List.Nodup
      rw [List.pairwise_map]
      refine (List.nodup_range.filter _).imp (fun hne e => hne ?_)
      injection e with _ e
      omega)]
    intro kl
    rw [← hmem, List.mem_map]
    constructor
    · intro hk
      obtain ⟨x, rfl, hw⟩ := hint kl hk
      rw [h3 x hw] at hk
      obtain ⟨h0, hx1⟩ := hS x hk
      refine ⟨x.toNat, List.mem_filter.2 ⟨List.mem_range.2 (by omega), ?_⟩, ?_⟩
      · rw [Int.toNat_of_nonneg h0]; exact hk
      · rw [Int.toNat_of_nonneg h0]
    · rintro ⟨i, hi, rfl⟩
      obtain ⟨hi1, hi2⟩ := List.mem_filter.1 hi
      have := List.mem_range.1 hi1
      rw [h3 _ (wfI (by omega) (by omega))]
      exact hi2
  have := hperm.length_eq
  simp only [List.length_map] at this
  rw [List.countP_eq_length_filter]
  exact this

theorem ranges_left {w : World} {b r n cnt : Nat} {D : DataW Unit} {left : Lit → Bool} (h : w.ranges Try.prog 3 elemB b r n D left cnt) {kl : Lit} (hl : left kl = true) : Maps.has D kl = true := by
  obtain ⟨es, clock, since, seen, c0, hb, F, hs, rfl, hr, _, _, _, h2, _⟩ := h
  obtain ⟨x, hx, rfl⟩ := h2 kl hl
  obtain ⟨y, hy⟩ := F.reads x hx
  exact List.any_eq_true.2 ⟨_, mem_sorted.2 (List.mem_map.2 ⟨x, hx, rfl⟩), WideAt.sameKey_self (by rw [WideElems.rg_of hy]; exact keyedI.key (WideElems.rd_key hy))⟩
theorem sameKey_int (x y : Int) : (Lit.int .i64 x).sameKey (.int .i64 y) = (x == y) := by
  by_cases h : x = y
  · subst h; rw [WideAt.sameKey_self (show WideAt.IsKeyLit (.int .i64 x) from trivial)]; simp
  · rw [Maps.sameKey_ne (by simpa using h)]; simp [h]

/-- A set under range: D's members are S's. -/
structure Ranging (w : World) (b r : Nat) (S : Int → Bool) (left : Int → Bool) (cnt : Nat) : Prop where
  out : ∃ n D l, w.ranges Try.prog 3 elemB b r n D l cnt ∧ (∀ x, (Lit.int .i64 x).wf = true → Maps.has D (.int .i64 x) = S x) ∧ (∀ x, l (.int .i64 x) = left x)

theorem Ranging.kept {w w' : World} {b r : Nat} {S left : Int → Bool} {cnt : Nat} {row : Option Nat} (h : Ranging w b r S left cnt) (hg : w.grownBy w' row) (hb : some b ≠ row) (hr : some r ≠ row) : Ranging w' b r S left cnt := by
  obtain ⟨n, D, l, h1, h2, h3⟩ := h.out
  exact ⟨⟨n, D, l, h1.kept hg hb hr, h2, h3⟩⟩
theorem Ranging.left_eq {w : World} {b r : Nat} {S left : Int → Bool} {cnt : Nat} (h : Ranging w b r S left cnt) : w.rangeLeft b r = cnt := by
  obtain ⟨n, D, l, h1, _⟩ := h.out
  exact h1.left_eq
theorem Ranging.lt {w : World} {b r : Nat} {S left : Int → Bool} {cnt : Nat} (h : Ranging w b r S left cnt) : r < w.heap.size := by
  obtain ⟨n, D, l, h1, _⟩ := h.out
  exact h1.lt
theorem Ranging.drewN {w : World} {b r : Nat} {S left : Int → Bool} {cnt : Nat} (h : Ranging w b r S left cnt) (k : Nat) : Ranging (w.drewN k) b r S left cnt := by
  obtain ⟨n, D, l, h1, h2⟩ := h.out
  exact ⟨⟨n, D, l, h1, h2⟩⟩

section
variable (w : World) {ops : Array Oper} {rest : List Oper} {o : Oper} {a : Act} {Q : Exit → Act → World → Prop}
theorem wpList_range_set (hg : o.guard = none) (m : Operand) (hop : o.op = Op.range 29 m) (b N : Nat) (S : Int → Bool) (hm : a.eval m = .map (some b)) (hset : IsSet w b N S)
    (hK : ∀ w' left cnt, Ranging w' b w.heap.size S left cnt → (∀ x, (Lit.int .i64 x).wf = true → left x = S x) → w.grownBy w' none → w'.heap.size = w.heap.size + 1 → wpList Try.prog ops Q rest (a.put o.dst (.pointer (some ⟨w.heap.size, 0, none⟩))) w') :
    wpList Try.prog ops Q (o :: rest) a w := by
  obtain ⟨n, D, hown, _, hhas⟩ := hset
  exact wpList_range_own w hg m 29 hop 3 4 keyedI Try.underlying29 elemB b n D hm hown (fun w' h1 h2 h3 => hK w' (fun x => Maps.has D (.int .i64 x)) _ ⟨⟨n, D, _, h1, hhas, fun _ => rfl⟩⟩ hhas h2 h3)
theorem wpList_next_set (hg : o.guard = none) (it : Operand) (hop : o.op = Op.next it false) (b r : Nat) (S left : Int → Bool) (cnt : Nat) (hit : a.eval it = .pointer (some ⟨r, 0, none⟩)) (h : Ranging w b r S left cnt)
    (hDone : (∀ x, (Lit.int .i64 x).wf = true → left x = false) → wpList Try.prog ops Q rest (a.put o.dst (.tuple #[.bool false])) w)
    (hMore : ∀ (x : Int) (c : Value) (w' : World) (cnt' : Nat), (Lit.int .i64 x).wf = true → S x = true → left x = true → Ranging w' b r S (fun z => left z && !(z == x)) cnt' → cnt' < cnt →
      w.grownBy w' (some r) → w'.heap.size = w.heap.size → (Instr.entry (.pointer (some ⟨r, 0, none⟩))).run Try.prog w' = .ok (.tuple #[.int .i64 x, c]) w' → wpList Try.prog ops Q rest (a.put o.dst (.tuple #[.bool true, .int .i64 x, c])) w') :
    wpList Try.prog ops Q (o :: rest) a w := by
  obtain ⟨n, D, l, h1, hhas, hl⟩ := h.out
  refine wpList_next_ranges w hg it hop 3 keyedI elemB (Value.int .i64) (fun v : Value => v) (fun key kl hkey => by obtain ⟨x, rfl, _⟩ := Maps.keyOf_int_inv Try.underlying3 hkey; exact ⟨x, rfl⟩) (fun v y hv => ⟨v, rfl⟩) b r n D l cnt hit h1
    (fun _ h0 => hDone (fun x _ => (hl x).symm.trans (h0 _))) (fun x c kl y w' cnt' hkey hlk _ _ hrg hlt hgr hsz hen => ?_)
  obtain ⟨x', ex, rfl, hwx⟩ := Maps.keyOf_int_inv Try.underlying3 hkey
  cases ex
  exact hMore x c w' cnt' hwx (by rw [← hhas x hwx]; exact ranges_left h1 hlk) (by rw [← hl]; exact hlk) ⟨⟨n, D, _, hrg, hhas, fun z => by simp [hl, sameKey_int]⟩⟩ hlt hgr hsz hen
theorem wpList_update_set (hg : o.guard = none) (m x v : Operand) (hop : o.op = Op.mapUpdate 29 m x v) (b N : Nat) (S : Int → Bool) (hm : a.eval m = .map (some b)) (hset : IsSet w b N S) (hN : N < maxLen) (y : Int) (hx : a.eval x = .int .i64 y) (hy : (Lit.int .i64 y).wf = true) (hv : a.eval v = .bool true)
    (hK : ∀ w', IsSet w' b (N + 1) (fun x => x == y || S x) → w.grownBy w' (some b) → wpList Try.prog ops Q rest (a.put o.dst undef) w') :
    wpList Try.prog ops Q (o :: rest) a w := by
  obtain ⟨n, D, hown, hn, hhas⟩ := hset
  exact wpList_mapUpdate_own w hg m x v 29 hop 3 4 keyedI Try.underlying29 elemB b n D hm hown (by omega) _ _ _ hx hv (keyI hy) _ _ (elemB_mk true)
    (fun w' h1 h2 => hK w' ⟨_, _, h1, by omega, fun x hx => by rw [has_put_int hown.isMap, hhas x hx]⟩ h2)
end

end Go.Proofs.Ytefkkgldlijbbaa
