/- What can be read as data of a plain type lies in memory as the walks take it: whole numbers, bools, strings, slices and structs of these. -/
import Derived.Deep.Slices
import Derived.Test.YtefkkgldlijbbaaWWords
namespace Go.Proofs.Ytefkkgldlijbbaa.Open
open Go.RowKit Go.Deep Go.Proofs.YtefkkgldlijbbaaW.PrintWords

/-- Whatever is read at type t is a value of the kind d, and such values satisfy I. -/
def Opens (P : Program) (t : TypeId) {α : Type} (d : Kd α) (I : α → Prop) : Prop :=
  ∀ {H : Type} (enc : TypeId × Value → H) (w : World) (base : Nat) (spare : Nat → Bool) (held : Bool) (fuel : Nat) (cs : List Value) (x : DataW H × List MemPlace), DataW.trod enc P w base spare held fuel t cs = some x → ∃ a, d.K w a cs ∧ I a

theorem opens_int {P : Program} {t : TypeId} {k : IntKind} (ht : P.underlying t = some (.int k)) : Opens P t (Kd.int k) (fun x => (Lit.int k x).wf = true) := by
  intro H enc w base spare held fuel cs x h
  obtain ⟨n, rfl, _, hw⟩ := DataW.trod_int ht h
  exact ⟨n, rfl, hw⟩
theorem opens_bool {P : Program} {t : TypeId} (ht : P.underlying t = some .bool) : Opens P t Kd.bool (fun _ => True) := by
  intro H enc w base spare held fuel cs x h
  obtain ⟨n, rfl, _⟩ := DataW.trod_bool ht h
  exact ⟨n, rfl, trivial⟩
theorem opens_string {P : Program} {t : TypeId} (ht : P.underlying t = some .string) : Opens P t Kd.string (fun s => s.size ≤ 9223372036854775807) := by
  intro H enc w base spare held fuel cs x h
  obtain ⟨n, rfl, _, hs⟩ := DataW.trod_string ht h
  exact ⟨n, rfl, hs⟩

theorem cells_of {w : World} {base n : Nat} {a : Addr} {cs : List Value} (h : w.cells? base a n = some cs) : cs.length = n ∧ ∀ i u, cs[i]? = some u → w.cell? (a.add i) = some u := by
  obtain ⟨_, h1, h2⟩ := World.cells?_some h
  refine ⟨h1, fun i u hu => ?_⟩
  rw [h2 i (by have := (List.getElem?_eq_some_iff.1 hu).1; omega)]
  exact hu

theorem opens_slice {P : Program} {t e : TypeId} {α : Type} [Inhabited α] {d : Kd α} {I : α → Prop} (ht : P.underlying t = some (.slice e)) (hc : P.cellsOf e = d.sz) (he : Opens P e d I) : Opens P t (Kd.slice e d) (fun xs => ∀ x ∈ xs, I x) := by
  intro H enc w base spare held fuel cs x h
  rcases open_slice ht h with ⟨rfl, _⟩ | ⟨a, len, cap, m, n, D, Pl, rfl, hb, hl, hm, hm2, _, hel⟩
  · exact ⟨[], ⟨none, 0, rfl, Nat.le_refl _, rfl, by simp, fun hp => absurd hp (by simp)⟩, by simp⟩
  · have hlm : len ≤ m := by rw [hm2]; split <;> omega
    have hall : ∀ i, i < len → ∃ x, (∃ c, w.cells? base (a.add (i * d.sz)) d.sz = some c ∧ d.K w x c) ∧ I x := by
      intro i hi
      obtain ⟨cs', h1, h2⟩ := hel i (by omega)
      obtain ⟨x, hx1, hx2⟩ := he enc w base spare held n cs' _ h2
      rw [hc] at h1
      exact ⟨x, ⟨cs', h1, hx1⟩, hx2⟩
    obtain ⟨f, hf⟩ := choose_lt hall
    refine ⟨(List.range len).map f, ⟨some a, cap, by simp, by simpa using hl, ?_⟩, ?_⟩
    · refine ⟨by simp, by simp [maxLen] at hm ⊢; omega, fun _ => ⟨a, rfl, fun j p hp => ?_⟩⟩
      have hj : j < len := by
        rcases Nat.lt_or_ge j len with h1 | h1
        · exact h1
        · rw [List.getElem?_eq_none (by simpa using h1)] at hp; cases hp
      have hpe : p = f j := by simpa [hj] using hp.symm
      subst hpe
      obtain ⟨⟨c, h1, h2⟩, _⟩ := hf j hj
      obtain ⟨hcl, hcc⟩ := cells_of h1
      exact ⟨c, hcl, h2, fun i u hu => by rw [← Go.Deep.add_add]; exact hcc i u hu⟩
    · intro x hx
      obtain ⟨j, hj, rfl⟩ := List.mem_map.1 hx
      exact (hf j (List.mem_range.1 hj)).2

end Go.Proofs.Ytefkkgldlijbbaa.Open
