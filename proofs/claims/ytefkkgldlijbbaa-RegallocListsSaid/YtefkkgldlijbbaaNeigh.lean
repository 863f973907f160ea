/- regalloc.neighbors: for every graph of at most 1000 lists of at most 1500 entries it makes a row of sets in new memory, each the set of a node's neighbours. -/
import Derived.Test.YtefkkgldlijbbaaSets
import Derived.Test.YtefkkgldlijbbaaWWords
import Derived.Test.YtefkkgldlijbbaaWMore
import Derived.RegionTactic
import Derived.BigRegion
import Derived.ChangeAlike
import Derived.StillTailTactics
import Derived.Lib.Hide
namespace Go.Proofs.Ytefkkgldlijbbaa
open Go.RowKit Go.Maps Go.Proofs.YtefkkgldlijbbaaW.PrintWords

/-- What an entry k of node i's list adds. -/
def stepS (n : Nat) (i : Nat) (S : Nat → Int → Bool) (k : Int) : Nat → Int → Bool :=
  if 0 ≤ k ∧ k < n ∧ k ≠ i then fun a x => (a == i && x == k) || ((a : Int) == k && x == (i : Int)) || S a x else S
def rowS (n : Nat) (i : Nat) (S : Nat → Int → Bool) (l : List Int) : Nat → Int → Bool := l.foldl (stepS n i) S
def allS (E : List (List Int)) : Nat → Nat → Int → Bool
  | 0 => fun _ _ => false
  | i + 1 => rowS E.length i (allS E i) (E.getD i [])

theorem at_rows {w : World} {A : Option Addr} {n : Nat} {xs : List (List Int)} (h : Kd.C (Kd.slice 3 (Kd.int .i64)) w A n xs) (i : Nat) (h1 : i < n) :
    ∃ ad A0 c0, A = some ad ∧ w.cell? (ad.add i) = some (.slice A0 (xs.getD i []).length c0) ∧ (xs.getD i []).length ≤ c0 ∧ (Kd.int .i64).C w A0 (xs.getD i []).length (xs.getD i []) := by
  obtain ⟨ad, c, e, _, hK, hc0⟩ := Kd.C_get h ([] : List Int) i (by omega) (by omega)
  have hc : ∀ j u, c[j]? = some u → w.cell? (ad.add (i * 1 + j)) = some u := hc0
  obtain ⟨A0, c0, rfl, l0, g0⟩ := hK
  exact ⟨ad, A0, c0, e, by have hq := hc 0 _ rfl; rwa [Nat.mul_one, Nat.add_zero] at hq, l0, g0⟩
theorem at_ints {w : World} {A : Option Addr} {n : Nat} {xs : List Int} (h : Kd.C (Kd.int .i64) w A n xs) (i : Nat) (h1 : i < n) :
    ∃ ad, A = some ad ∧ w.cell? (ad.add i) = some (.int .i64 (xs.getD i 0)) := by
  obtain ⟨ad, c, e, _, hK, hc0⟩ := Kd.C_get h (0 : Int) i (by omega) (by omega)
  have hc : ∀ j u, c[j]? = some u → w.cell? (ad.add (i * 1 + j)) = some u := hc0
  obtain rfl : c = [.int .i64 (xs.getD i 0)] := hK
  exact ⟨ad, e, by have hq := hc 0 _ rfl; rwa [Nat.mul_one, Nat.add_zero] at hq⟩

/-- The row of maps, k of which are made. -/
def mapCells (B n k : Nat) : Array Value := ((List.range n).map fun i => if i < k then Value.map (some (B + 1 + i)) else .map none).toArray

theorem mapCells_size (B n k : Nat) : (mapCells B n k).size = n := by simp [mapCells]
theorem mapCells_get {B n k i : Nat} (h : i < n) : (mapCells B n k)[i]? = some (if i < k then Value.map (some (B + 1 + i)) else .map none) := by
  simp [mapCells, h]
theorem mapCells_made (B n : Nat) : madeCells #[Value.map none] n = mapCells B n 0 := by
  apply Array.ext_getElem?
  intro i
  by_cases h : i < n
  · rw [mapCells_get h]; simp [madeCells, h, Nat.mod_one]
  · rw [Array.getElem?_eq_none (by simp [madeCells]; omega), Array.getElem?_eq_none (by simp [mapCells]; omega)]
theorem mapCells_set {B n k : Nat} (h : k < n) : (mapCells B n k).setIfInBounds k (.map (some (B + 1 + k))) = mapCells B n (k + 1) := by
  apply Array.ext_getElem?
  intro i
  by_cases hi : i < n
  · rw [Array.getElem?_setIfInBounds, mapCells_get hi, mapCells_get hi, mapCells_size]
    by_cases e : k = i
    · subst e; simp [h]
    · rw [if_neg e]
      by_cases h1 : i < k
      · rw [if_pos h1, if_pos (by omega)]
      · rw [if_neg h1, if_neg (by omega)]
  · rw [Array.getElem?_eq_none (by simp [mapCells]; omega), Array.getElem?_eq_none (by simp [mapCells]; omega)]

theorem cell_of_row {w : World} {B i : Nat} {cs : Array Value} {t : TypeId} {v : Value} (h : w.heap[B]? = some (.cells cs t (0, 0))) (hv : cs[i]? = some v) : w.cell? ⟨B, i, none⟩ = some v ∧ w.frozen? ⟨B, i, none⟩ = false := by
  constructor
  · simp [World.cell?, h, hv]
  · simp [World.frozen?, h]

/-- One round of the first loop: a map in new memory, its number in the row. -/
theorem mk_step {w wr : World} {n k : Nat} (hk : k < n) (hs : wr.heap.size = w.heap.size + 1 + k) (hr : wr.heap[w.heap.size]? = some (.cells (mapCells w.heap.size n k) 29 (0, 0)))
    (hm : ∀ i, i < k → IsSet wr (w.heap.size + 1 + i) 0 (fun _ => false)) (hb : Below w.heap.size w wr) {w' : World} (hw : w' = (wr.alloc (.map #[] 0)).setCell ⟨w.heap.size, k, none⟩ (.map (some wr.heap.size))) :
    w'.heap.size = w.heap.size + 1 + (k + 1) ∧ w'.heap[w.heap.size]? = some (.cells (mapCells w.heap.size n (k + 1)) 29 (0, 0)) ∧ (∀ i, i < k + 1 → IsSet w' (w.heap.size + 1 + i) 0 (fun _ => false)) ∧ Below w.heap.size w w' := by
  have e1 : ∀ b, b ≠ w.heap.size → w'.heap[b]? = (wr.alloc (.map #[] 0)).heap[b]? := fun b hbne => by rw [hw]; exact Below.heap_setCell _ _ _ _ hbne
  have h1 : (wr.alloc (.map #[] 0)).heap[w.heap.size]? = some (.cells (mapCells w.heap.size n k) 29 (0, 0)) := (Below.heap_alloc wr _ _ (by omega)).trans hr
  refine ⟨?_, ?_, ?_, ?_⟩
  · rw [hw]; simp [World.setCell, hs]; omega
  · rw [hw]
    show ((wr.alloc (.map #[] 0)).heap.modify _ _)[w.heap.size]? = _
    rw [Array.getElem?_modify, if_pos rfl, h1]
    simp [hs, mapCells_set hk]
  · intro i hi
    by_cases e : i = k
    · subst e
      have := isSet_made wr
      rw [hs] at this
      exact this.same (e1 _ (by omega))
    · exact ((hm i (by omega)).same (Below.heap_alloc wr _ _ (by omega))).same (e1 _ (by omega))
  · rw [hw]; exact (hb.alloc hb.size _).setCell (p := ⟨w.heap.size, k, none⟩) (Nat.le_refl _) _

/-- While the second loop runs: the row, the sets, nothing else. -/
structure NB (w wr : World) (n m : Nat) (S : Nat → Int → Bool) : Prop where
  size : wr.heap.size = w.heap.size + 1 + n
  row : wr.heap[w.heap.size]? = some (.cells (mapCells w.heap.size n n) 29 (0, 0))
  sets : ∀ a, a < n → IsSet wr (w.heap.size + 1 + a) m (S a)
  below : Below w.heap.size w wr

theorem NB.mono {w wr : World} {n m m' : Nat} {S : Nat → Int → Bool} (h : NB w wr n m S) (hm : m ≤ m') : NB w wr n m' S := ⟨h.size, h.row, fun a ha => (h.sets a ha).mono hm, h.below⟩
theorem NB.cell {w wr : World} {n m : Nat} {S : Nat → Int → Bool} (h : NB w wr n m S) {i : Nat} (hi : i < n) : wr.cell? ⟨w.heap.size, i, none⟩ = some (.map (some (w.heap.size + 1 + i))) := by
  have := (cell_of_row h.row (mapCells_get (B := w.heap.size) (k := n) hi)).1
  rwa [if_pos hi] at this

/-- An edge that counts: its two ends, one behind the other, in a world in which an order has been drawn. -/
theorem NB.edge {w wr : World} {n m i : Nat} {S : Nat → Int → Bool} (h : NB w wr n m S) (hm : m ≤ 3000000) (hn : n ≤ 1000) (hi : i < n) {q : Int} (h0 : 0 ≤ q) (h1 : q < n) (hne : q ≠ i) :
    ∃ v0 st v1 st' w1 w2 w3 w4, (Instr.mapEntry 29 (.map (some (w.heap.size + 1 + i))) (.int .i64 q)).run Try.prog wr.drew = .ok (.tuple #[v0, .int .i64 st]) w1 ∧
      (Instr.entryStore 29 (.map (some (w.heap.size + 1 + i))) (.int .i64 st) (.bool true)).run Try.prog w1 = .ok () w2 ∧
      (Instr.mapEntry 29 (.map (some (w.heap.size + 1 + q.toNat))) (.int .i64 i)).run Try.prog w2 = .ok (.tuple #[v1, .int .i64 st']) w3 ∧
      (Instr.entryStore 29 (.map (some (w.heap.size + 1 + q.toNat))) (.int .i64 st') (.bool true)).run Try.prog w3 = .ok () w4 ∧ NB w w4 n (m + 2) (stepS n i S q) := by
  have hmx : maxLen = 9223372036854775807 := rfl
  obtain ⟨v0, st, w1, r1, _, _, w2, r2, o2, g2, s2⟩ := ((h.sets i hi).same (w' := wr.drew) rfl).entry (by omega) q (wfI (by omega) (by omega))
  have hb : w.heap.size + 1 + q.toNat ≠ w.heap.size + 1 + i := by omega
  have hq : q.toNat < n := by omega
  have hsz : wr.drew.heap.size = wr.heap.size := rfl
  have hset2 : IsSet w2 (w.heap.size + 1 + q.toNat) m (S q.toNat) := ((h.sets _ hq).same (w' := wr.drew) rfl).kept g2 (by simp; omega)
  obtain ⟨v1, st', w3, r3, _, _, w4, r4, o4, g4, s4⟩ := hset2.entry (by omega) (i : Int) (wfI (by omega) (by omega))
  have hsize := h.size
  refine ⟨v0, st, v1, st', w1, w2, w3, w4, r1, r2, r3, r4, by omega, ?_, ?_, ?_⟩
  · refine (g4.block _ (by omega) (by simp; omega)).trans ((g2.block _ (by rw [hsz]; omega) (by simp; omega)).trans h.row)
  · intro a ha
    have hstep : stepS n i S q = fun a x => (a == i && x == q) || ((a : Int) == q && x == (i : Int)) || S a x := by unfold stepS; rw [if_pos ⟨h0, h1, hne⟩]
    rw [hstep]
    by_cases ea : a = i
    · subst ea
      refine ((o2.kept g4 (by simp; omega)).mono (by omega)).congr (fun x _ => ?_)
      have : ((a : Int) == q) = false := by simp; omega
      simp [this]
    · by_cases eq : a = q.toNat
      · subst eq
        refine (o4.mono (by omega)).congr (fun x _ => ?_)
        have e2 : ((q.toNat : Int) == q) = true := by simp; omega
        have e1 : (q.toNat == i) = false := by simpa using ea
        show _ = ((q.toNat == i) && x == q || ((q.toNat : Int) == q) && x == (i : Int) || S q.toNat x)
        rw [e1, e2]; simp
      · refine (((h.sets a ha).same (w' := wr.drew) rfl).kept g2 (by simp; omega) |>.kept g4 (by simp; omega) |>.mono (by omega)).congr (fun x _ => ?_)
        have e2 : ((a : Int) == q) = false := by simp; omega
        have e1 : (a == i) = false := by simpa using ea
        simp [e1, e2]
  · have hd : Below w.heap.size w wr.drew := h.below.drew
    exact (hd.grown g2 (by rw [hsz]; omega) (fun k hk => by cases hk; omega)).grown g4 (by omega) (fun k hk => by cases hk; omega)

theorem stepS_no {n i : Nat} {S : Nat → Int → Bool} {q : Int} (h : ¬ (0 ≤ q ∧ q < n ∧ q ≠ i)) : stepS n i S q = S := by unfold stepS; rw [if_neg h]
theorem rowS_take {n i : Nat} {S : Nat → Int → Bool} {l : List Int} {j : Nat} (h : j < l.length) : rowS n i S (l.take (j + 1)) = stepS n i (rowS n i S (l.take j)) (l.getD j 0) := by
  unfold rowS
  rw [List.take_succ_eq_append_getElem h, List.foldl_append]
  simp [h]

set_option maxRecDepth 100000 in
theorem neigh_calls (A0 : Option Addr) (c0 : Nat) (E : List (List Int)) (w : World) (hE : Kd.C (Kd.slice 3 (Kd.int .i64)) w A0 E.length E) (hc0 : E.length ≤ c0) (hn : E.length ≤ 1000) (hl : ∀ l ∈ E, l.length ≤ 1500) :
    Calls Try.prog 13 #[.slice A0 E.length c0] w fun e w' => e = .returned (.slice (some ⟨w.heap.size, 0, none⟩) E.length E.length) ∧
      w'.heap[w.heap.size]? = some (.cells (mapCells w.heap.size E.length E.length) 29 (0, 0)) ∧ w'.heap.size = w.heap.size + 1 + E.length ∧
      (∀ i, i < E.length → IsSet w' (w.heap.size + 1 + i) 4000000 (allS E E.length i)) ∧ Below w.heap.size w w' := by
  have hmm := @run_makeMap Try.prog
  obtain ⟨n, hnE⟩ : ∃ n, n = E.length := ⟨_, rfl⟩
  rw [← hnE] at hc0 hn hE ⊢
  have HE := Lib.hid hE
  have HL := Lib.hid hl
  clear hE hl
  have HN := Lib.hid hnE
  clear hnE
  have hinfo : (Try.prog.info? 29).map (fun i => (i.zero, i.size, i.bytes)) = some (some (.map none), 1, 8) := by kernel_rfl
  have hmk := run_make_row' (P := Try.prog) 32 29 (.map none) 8 Try.underlying32 hinfo rfl .i64 .i64 n (by omega) (by omega)
  clear hinfo
  have hmc := mapCells_made w.heap.size n
  go_enter Try.func13, Try.ntmps13
  go_wp2
  clear hmk hmc
  go_loopw [14] (fun v wr => ∃ k : Nat, k ≤ n ∧ v = .int .i64 k ∧ wr.heap.size = w.heap.size + 1 + k ∧ wr.heap[w.heap.size]? = some (.cells (mapCells w.heap.size n k) 29 (0, 0)) ∧ (∀ i, i < k → IsSet wr (w.heap.size + 1 + i) 0 (fun _ => false)) ∧ Below w.heap.size w wr)
    (fun v _ => n - (intOf v).toNat)
  case atStart => exact ⟨0, Nat.zero_le _, rfl, by simp, (MapKept.heap_alloc w _).1, fun i hi => absurd hi (by omega), (Below.refl _ _).alloc (Nat.le_refl _) _⟩
  case round =>
    obtain ⟨k, hk, rfl, hs, hr, hm, hb⟩ := hrel
    by_cases hlt : k < n
    · have hcf := cell_of_row hr (mapCells_get (B := w.heap.size) (k := k) hlt)
      rw [if_neg (Nat.lt_irrefl _)] at hcf
      have hcf1 := cell_of_row ((Below.heap_alloc wr (.map #[] 0) _ (by omega)).trans hr) (mapCells_get (B := w.heap.size) (k := k) hlt)
      rw [if_neg (Nat.lt_irrefl _)] at hcf1
      obtain ⟨hc1, hf1⟩ := hcf1
      have R := mk_step hlt hs hr hm hb rfl
      have HR := Lib.hid R
      clear R hcf hs hr hm hb
      go_wp2
      go_roundw
      case rel => exact ⟨k + 1, by omega, by go_num, HR.out⟩
      case measure => simp [intOf]; omega
    · obtain rfl : n = k := by omega
      have HNB : NB w wr n 0 (allS E 0) := ⟨hs, hr, hm, hb⟩
      clear hs hr hm hb hmm
      go_wp2
      obtain ⟨w1, hw1⟩ : ∃ w1, w1 = wr := ⟨_, rfl⟩
      rw [← hw1] at HNB ⊢
      clear hw1
      go_loopw [24] (fun v wr => ∃ i : Nat, i ≤ n ∧ v = .int .i64 i ∧ NB w wr n (3000 * i) (allS E i)) (fun v _ => n - (intOf v).toNat)
      case atStart => exact ⟨0, Nat.zero_le _, rfl, HNB⟩
      case round =>
        clear HNB
        obtain ⟨i, hi, rfl, HNB⟩ := hrel
        by_cases hlt : i < n
        · obtain ⟨ad, A1, c1, rfl, hce, hc1, hE1⟩ := at_rows HE.out i hlt
          have hce1 := pw_cell_below HNB.below hce
          have hll := HL.out (E.getD i []) (by
            have hN := HN.out
            rw [List.getD_eq_getElem?_getD, List.getElem?_eq_getElem (by omega)]
            simp)
          obtain ⟨l, hlE⟩ : ∃ l, l = E.getD i [] := ⟨_, rfl⟩
          rw [← hlE] at hce hc1 hE1 hce1 hll
          have HE1 := Lib.hid hE1
          have HLE := Lib.hid hlE
          clear hE1 hlE hce
          go_wp2
          clear hce1
          obtain ⟨w2, hw2⟩ : ∃ w2, w2 = wr := ⟨_, rfl⟩
          rw [← hw2] at HNB ⊢
          clear hw2
          go_loopw [31] (fun v wr => ∃ j : Nat, j ≤ l.length ∧ v = .int .i64 j ∧ NB w wr n (3000 * i + 2 * j) (rowS n i (allS E i) (l.take j))) (fun v _ => l.length - (intOf v).toNat)
          case atStart => exact ⟨0, Nat.zero_le _, rfl, by simpa [rowS] using HNB⟩
          case round =>
            clear HNB
            obtain ⟨j, hj, rfl, HNB⟩ := hrel
            by_cases hjl : j < l.length
            · obtain ⟨ad1, rfl, hq⟩ := at_ints HE1.out j hjl
              have hq1 := pw_cell_below HNB.below hq
              have hts := rowS_take (n := n) (i := i) (S := allS E i) hjl
              obtain ⟨q, hqE⟩ : ∃ q, q = l.getD j 0 := ⟨_, rfl⟩
              rw [← hqE] at hq1 hts
              have HT := Lib.hid hts
              clear hq hqE hts
              by_cases hcond : 0 ≤ q ∧ q < n ∧ q ≠ i
              · obtain ⟨h0, h1, hne⟩ := hcond
                have b1 : decide (0 ≤ q) = true := decide_eq_true h0
                have b2 : decide (q < (n : Int)) = true := decide_eq_true h1
                have b3 : (q != (i : Int)) = true := by rw [bne_iff_ne]; exact hne
                have hci := HNB.cell hlt
                have hcq := HNB.cell (i := q.toNat) (by omega)
                obtain ⟨v0, st, v1, st', w3, w4, w5, w6, r1, r2, r3, r4, HN6⟩ := HNB.edge (by omega) hn hlt h0 h1 hne
                rw [← HT.out] at HN6
                clear HT
                go_wp2
                go_region
                go_wp2
                go_roundw
                case rel => exact ⟨j + 1, by omega, by go_num, HN6⟩
                case measure => simp [intOf]; omega
              · have hno := stepS_no (S := rowS n i (allS E i) (l.take j)) hcond
                have HX : NB w wr n (3000 * i + 2 * (j + 1)) (rowS n i (allS E i) (l.take (j + 1))) := by
                  rw [HT.out, hno]; exact HNB.mono (by omega)
                clear HNB HT hno
                by_cases h0 : 0 ≤ q
                · have b1 : decide (0 ≤ q) = true := decide_eq_true h0
                  by_cases h1 : q < n
                  · have b2 : decide (q < (n : Int)) = true := decide_eq_true h1
                    have b3 : (q != (i : Int)) = false := by
                      have : q = (i : Int) := by
                        by_cases e : q = (i : Int)
                        · exact e
                        · exact absurd ⟨h0, h1, e⟩ hcond
                      rw [this]; simp
                    clear hcond
                    go_wp2
                    go_roundw
                    case rel => exact ⟨j + 1, by omega, by go_num, HX⟩
                    case measure => simp [intOf]; omega
                  · have b2 : decide (q < (n : Int)) = false := decide_eq_false h1
                    clear hcond
                    go_wp2
                    go_roundw
                    case rel => exact ⟨j + 1, by omega, by go_num, HX⟩
                    case measure => simp [intOf]; omega
                · have b1 : decide (0 ≤ q) = false := decide_eq_false h0
                  clear hcond
                  go_wp2
                  go_roundw
                  case rel => exact ⟨j + 1, by omega, by go_num, HX⟩
                  case measure => simp [intOf]; omega
            · have hjl' : j = l.length := by omega
              have HX : NB w wr n (3000 * (i + 1)) (allS E (i + 1)) := by
                have e : allS E (i + 1) = rowS n i (allS E i) l := by
                  show rowS E.length i (allS E i) (E.getD i []) = _
                  rw [← HN.out, ← HLE.out]
                rw [e]
                rw [hjl', List.take_length] at HNB
                exact HNB.mono (by omega)
              clear HNB hjl'
              go_wp2
              go_roundw
              case rel => exact ⟨i + 1, by omega, by go_num, HX⟩
              case measure => simp [intOf]; omega
        · have e : i = n := by omega
          rw [e] at HNB
          have hNE := HN.out
          have HF : wr.heap[w.heap.size]? = some (.cells (mapCells w.heap.size E.length E.length) 29 (0, 0)) ∧ wr.heap.size = w.heap.size + 1 + E.length ∧ (∀ i, i < E.length → IsSet wr (w.heap.size + 1 + i) 4000000 (allS E E.length i)) ∧ Below w.heap.size w wr := by
            rw [hNE] at HNB
            exact ⟨HNB.row, HNB.size, fun a ha => (HNB.sets a ha).mono (by omega), HNB.below⟩
          have HF' := Lib.hid HF
          clear HF e HNB hNE
          go_wp2
          go_ret
          have hNE := HN.out
          subst hNE
          exact ⟨rfl, HF'.out⟩

end Go.Proofs.Ytefkkgldlijbbaa
