/- Texts of this claim, joined by a program (part 5); what nothing uses is left out. -/
import Derived.Test.YthgodpmahdnnjaaQe4
import Derived.Deep.Slices
import Derived.ChangeArms
import Derived.WideShapes
set_option linter.unusedVariables false
set_option linter.unusedSimpArgs false
section
namespace Go.Proofs.Ythgodpmahdnnjaa.Open
open Go.RowKit Go.Deep Go.Proofs.YthgodpmahdnnjaaW.PrintWords Go.Proofs.Ythgodpmahdnnjaa.H
def Opens (P : Program) (t : TypeId) {α : Type} (d : Kd α) : Prop :=
  ∀ {H : Type} (enc : TypeId × Value → H) (w : World) (base : Nat) (spare : Nat → Bool) (held : Bool) (fuel : Nat) (cs : List Value) (x : DataW H × List MemPlace), DataW.trod enc P w base spare held fuel t cs = some x → ∃ a, d.K w a cs
theorem opens_int {P : Program} {t : TypeId} {k : IntKind} (ht : P.underlying t = some (.int k)) : Opens P t (Kd.int k) := by
  intro H enc w base spare held fuel cs x h
  obtain ⟨n, rfl, _, hw⟩ := DataW.trod_int ht h
  exact ⟨n, rfl⟩
theorem opens_string {P : Program} {t : TypeId} (ht : P.underlying t = some .string) : Opens P t Kd.string := by
  intro H enc w base spare held fuel cs x h
  obtain ⟨n, rfl, _, hs⟩ := DataW.trod_string ht h
  exact ⟨n, rfl⟩
theorem cells_of {w : World} {base n : Nat} {a : Addr} {cs : List Value} (h : w.cells? base a n = some cs) : cs.length = n ∧ ∀ i u, cs[i]? = some u → w.cell? (a.add i) = some u := by
  obtain ⟨_, h1, h2⟩ := World.cells?_some h
  refine ⟨h1, fun i u hu => ?_⟩
  rw [h2 i (by have := (List.getElem?_eq_some_iff.1 hu).1; omega)]
  exact hu
theorem opens_slice {P : Program} {t e : TypeId} {α : Type} [Inhabited α] {d : Kd α} (ht : P.underlying t = some (.slice e)) (hc : P.cellsOf e = d.sz) (he : Opens P e d) : Opens P t (Kd.slice e d) := by
  intro H enc w base spare held fuel cs x h
  rcases open_slice ht h with ⟨rfl, _⟩ | ⟨a, len, cap, m, n, D, Pl, rfl, hb, hl, hm, hm2, _, hel⟩
  · exact ⟨[], ⟨none, 0, rfl, Nat.le_refl _, rfl, by simp, fun hp => absurd hp (by simp)⟩⟩
  · have hlm : len ≤ m := by rw [hm2]; split <;> omega
    have hall : ∀ i, i < len → ∃ x, ∃ c, w.cells? base (a.add (i * d.sz)) d.sz = some c ∧ d.K w x c := by
      intro i hi
      obtain ⟨cs', h1, h2⟩ := hel i (by omega)
      obtain ⟨x, hx1⟩ := he enc w base spare held n cs' _ h2
      rw [hc] at h1
      exact ⟨x, cs', h1, hx1⟩
    obtain ⟨f, hf⟩ := choose_lt hall
    refine ⟨(List.range len).map f, ⟨some a, cap, by simp, by simpa using hl, ?_⟩⟩
    refine ⟨by simp, by simp [maxLen] at hm ⊢; omega, fun _ => ⟨a, rfl, fun j p hp => ?_⟩⟩
    have hj : j < len := by
      rcases Nat.lt_or_ge j len with h1 | h1
      · exact h1
      · rw [List.getElem?_eq_none (by simpa using h1)] at hp; cases hp
    have hpe : p = f j := by simpa [hj] using hp.symm
    subst hpe
    obtain ⟨c, h1, h2⟩ := hf j hj
    obtain ⟨hcl, hcc⟩ := cells_of h1
    exact ⟨c, hcl, h2, fun i u hu => by rw [← Go.Deep.add_add]; exact hcc i u hu⟩
theorem flds {P : Program} {t : TypeId} {fs : Array Field} (ht : P.underlying t = some (.struct fs)) {H : Type} {enc : TypeId × Value → H} {w : World} {base : Nat} {spare : Nat → Bool} {held : Bool} {fuel : Nat} {cs : List Value} {x : DataW H × List MemPlace}
    (h : DataW.trod enc P w base spare held fuel t cs = some x) : cs.length = P.cellsOf t ∧ ∀ (i : Nat) (f : Field), fs[i]? = some f → ∃ n y, DataW.trod enc P w base spare held n f.type ((cs.drop f.offset).take (P.cellsOf f.type)) = some y := by
  obtain ⟨xs, n, _, _, hl, hlen, hf⟩ := DataW.trod_struct ht h
  refine ⟨hl, fun i f hi => ⟨n, ?_⟩⟩
  have hlt : i < xs.length := by rw [hlen]; exact (Array.getElem?_eq_some_iff.1 hi).1
  exact ⟨xs[i], by rw [hf i f hi, List.getElem?_eq_getElem hlt]⟩
theorem fld {P : Program} {t : TypeId} {fs : Array Field} {H : Type} {enc : TypeId × Value → H} {w : World} {base : Nat} {spare : Nat → Bool} {held : Bool} {cs : List Value} {α : Type} {d : Kd α}
    (h : ∀ (i : Nat) (f : Field), fs[i]? = some f → ∃ n y, DataW.trod enc P w base spare held n f.type ((cs.drop f.offset).take (P.cellsOf f.type)) = some y)
    (i : Nat) (f : Field) (hi : fs[i]? = some f) (ho : f.type = t) (hd : Opens P t d) (u : List Value) (hu : (cs.drop f.offset).take (P.cellsOf f.type) = u) : ∃ a, d.K w a u := by
  obtain ⟨n, y, hy⟩ := h i f hi
  rw [hu, ho] at hy
  exact hd enc w base spare held n u y hy
theorem len2 {cs : List Value} (h : cs.length = 2) : ∃ v0 v1, cs = [v0, v1] := by
  match cs, h with
  | [v0, v1], _ => exact ⟨v0, v1, rfl⟩
theorem len4 {cs : List Value} (h : cs.length = 4) : ∃ v0 v1 v2 v3, cs = [v0, v1, v2, v3] := by
  match cs, h with
  | [v0, v1, v2, v3], _ => exact ⟨v0, v1, v2, v3, rfl⟩
theorem len5 {cs : List Value} (h : cs.length = 5) : ∃ v0 v1 v2 v3 v4, cs = [v0, v1, v2, v3, v4] := by
  match cs, h with
  | [v0, v1, v2, v3, v4], _ => exact ⟨v0, v1, v2, v3, v4, rfl⟩
theorem len6 {cs : List Value} (h : cs.length = 6) : ∃ v0 v1 v2 v3 v4 v5, cs = [v0, v1, v2, v3, v4, v5] := by
  match cs, h with
  | [v0, v1, v2, v3, v4, v5], _ => exact ⟨v0, v1, v2, v3, v4, v5, rfl⟩
instance : Inhabited S62 := ⟨z62⟩
instance : Inhabited S43 := ⟨z43⟩
instance : Inhabited S107 := ⟨z107⟩
theorem opens_Ins : Opens Try.prog 62 k62 := by
  intro H enc w base spare held fuel cs x h
  obtain ⟨hl, hf⟩ := flds Try.underlying62 h
  obtain ⟨v0, v1, v2, v3, v4, v5, rfl⟩ := len6 (hl.trans (by kernel_rfl))
  obtain ⟨a0, h0⟩ := fld hf 0 _ rfl rfl (opens_int (k := .u8) (by kernel_rfl)) [v0] (by kernel_rfl)
  obtain rfl : v0 = .int .u8 a0 := by injection h0
  obtain ⟨a1, h1⟩ := fld hf 1 _ rfl rfl (opens_int (k := .i64) (by kernel_rfl)) [v1] (by kernel_rfl)
  obtain rfl : v1 = .int .i64 a1 := by injection h1
  obtain ⟨a2, h2⟩ := fld hf 2 _ rfl rfl (opens_int (k := .i64) (by kernel_rfl)) [v2] (by kernel_rfl)
  obtain rfl : v2 = .int .i64 a2 := by injection h2
  obtain ⟨a3, h3⟩ := fld hf 3 _ rfl rfl (opens_int (k := .i64) (by kernel_rfl)) [v3] (by kernel_rfl)
  obtain rfl : v3 = .int .i64 a3 := by injection h3
  obtain ⟨a4, h4⟩ := fld hf 4 _ rfl rfl (opens_int (k := .i64) (by kernel_rfl)) [v4] (by kernel_rfl)
  obtain rfl : v4 = .int .i64 a4 := by injection h4
  obtain ⟨a5, h5⟩ := fld hf 5 _ rfl rfl (opens_string (by kernel_rfl)) [v5] (by kernel_rfl)
  obtain rfl : v5 = .string a5 := by injection h5
  exact ⟨⟨a0, a1, a2, a3, a4, a5⟩, k62_mk w ⟨a0, a1, a2, a3, a4, a5⟩⟩
theorem opens_Array : Opens Try.prog 107 k107 := by
  intro H enc w base spare held fuel cs x h
  obtain ⟨hl, hf⟩ := flds Try.underlying107 h
  obtain ⟨v0, v1, rfl⟩ := len2 (hl.trans (by kernel_rfl))
  obtain ⟨a0, h0⟩ := fld hf 0 _ rfl rfl (opens_string (by kernel_rfl)) [v0] (by kernel_rfl)
  obtain rfl : v0 = .string a0 := by injection h0
  obtain ⟨a1, h1⟩ := fld hf 1 _ rfl rfl (opens_int (k := .i64) (by kernel_rfl)) [v1] (by kernel_rfl)
  obtain rfl : v1 = .int .i64 a1 := by injection h1
  exact ⟨⟨a0, a1⟩, k107_mk w ⟨a0, a1⟩⟩
theorem opens_Block : Opens Try.prog 43 k43 := by
  intro H enc w base spare held fuel cs x h
  obtain ⟨hl, hf⟩ := flds Try.underlying43 h
  obtain ⟨v0, v1, v2, v3, v4, rfl⟩ := len5 (hl.trans (by kernel_rfl))
  obtain ⟨a0, A0, c0, h0, l0, g0⟩ := fld (d := Kd.slice 62 k62) hf 0 _ rfl rfl (opens_slice (by kernel_rfl) (by kernel_rfl) opens_Ins) [v0] (by kernel_rfl)
  obtain rfl : v0 = .slice A0 a0.length c0 := by injection h0
  obtain ⟨a1, h1⟩ := fld hf 1 _ rfl rfl (opens_int (k := .u8) (by kernel_rfl)) [v1] (by kernel_rfl)
  obtain rfl : v1 = .int .u8 a1 := by injection h1
  obtain ⟨a2, h2⟩ := fld hf 2 _ rfl rfl (opens_int (k := .i64) (by kernel_rfl)) [v2] (by kernel_rfl)
  obtain rfl : v2 = .int .i64 a2 := by injection h2
  obtain ⟨a3, h3⟩ := fld hf 3 _ rfl rfl (opens_int (k := .i64) (by kernel_rfl)) [v3] (by kernel_rfl)
  obtain rfl : v3 = .int .i64 a3 := by injection h3
  obtain ⟨a4, h4⟩ := fld hf 4 _ rfl rfl (opens_int (k := .i64) (by kernel_rfl)) [v4] (by kernel_rfl)
  obtain rfl : v4 = .int .i64 a4 := by injection h4
  exact ⟨⟨a0, a1, a2, a3, a4⟩, k43_mk w ⟨a0, a1, a2, a3, a4⟩ l0 g0⟩
theorem open_Func {H : Type} {enc : TypeId × Value → H} {w : World} {base : Nat} {spare : Nat → Bool} {held : Bool} {fuel : Nat} {cs : List Value} {x : DataW H × List MemPlace} (h : DataW.trod enc Try.prog w base spare held fuel 25 cs = some x) :
    ∃ (nm : ByteArray) (R : Int) (A2 : Option Addr) (c2 : Nat) (ar : List S107) (A3 : Option Addr) (c3 : Nat) (B : List S43), cs = [.string nm, .int .i64 R, .slice A2 ar.length c2, .slice A3 B.length c3] ∧ ar.length ≤ c2 ∧ k107.C w A2 ar.length ar ∧ B.length ≤ c3 ∧ k43.C w A3 B.length B := by
  obtain ⟨hl, hf⟩ := flds Try.underlying25 h
  obtain ⟨v0, v1, v2, v3, rfl⟩ := len4 (hl.trans (by kernel_rfl))
  obtain ⟨a0, h0⟩ := fld hf 0 _ rfl rfl (opens_string (by kernel_rfl)) [v0] (by kernel_rfl)
  obtain rfl : v0 = .string a0 := by injection h0
  obtain ⟨a1, h1⟩ := fld hf 1 _ rfl rfl (opens_int (k := .i64) (by kernel_rfl)) [v1] (by kernel_rfl)
  obtain rfl : v1 = .int .i64 a1 := by injection h1
  obtain ⟨a2, A2, c2, h2, l2, g2⟩ := fld (d := Kd.slice 107 k107) hf 2 _ rfl rfl (opens_slice (by kernel_rfl) (by kernel_rfl) opens_Array) [v2] (by kernel_rfl)
  obtain rfl : v2 = .slice A2 a2.length c2 := by injection h2
  obtain ⟨a3, A3, c3, h3, l3, g3⟩ := fld (d := Kd.slice 43 k43) hf 3 _ rfl rfl (opens_slice (by kernel_rfl) (by kernel_rfl) opens_Block) [v3] (by kernel_rfl)
  obtain rfl : v3 = .slice A3 a3.length c3 := by injection h3
  exact ⟨a0, a1, A2, c2, a2, A3, c3, a3, rfl, l2, g2, l3, g3⟩
end Go.Proofs.Ythgodpmahdnnjaa.Open
end
