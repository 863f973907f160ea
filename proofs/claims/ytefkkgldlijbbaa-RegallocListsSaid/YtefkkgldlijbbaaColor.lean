/- The law of colouring, in plain Lean: the order in which nodes are removed, the colours that they get, what these are good for. -/
namespace Go.Proofs.Ytefkkgldlijbbaa.ColorLaw

/-- how many of b < n are not removed and adjacent to a -/
def deg (n : Nat) (A : Nat → Nat → Bool) (R : List Nat) (a : Nat) : Int := ((List.range n).countP (fun b => !R.contains b && A a b) : Nat)

/-- the scan of the reference: the first of small degree, else the first of the largest -/
def scan (d : Nat → Int) (g : Nat → Bool) (c : Int) : List Nat → Int → Int → Int
  | [], best, _ => best
  | a :: l, best, most => if g a then scan d g c l best most else if d a < c then a else if d a > most then scan d g c l a (d a) else scan d g c l best most

def next (n : Nat) (A : Nat → Nat → Bool) (c : Int) (R : List Nat) : Int := scan (deg n A R) (fun a => R.contains a) c (List.range n) (-1) (-1)

/-- the first t removed nodes, in their order -/
def order (n : Nat) (A : Nat → Nat → Bool) (c : Int) : Nat → List Nat
  | 0 => []
  | t + 1 => order n A c t ++ [(next n A c (order n A c t)).toNat]

/-- the program's choice -/
def pickStep (d : Nat → Int) (g : Nat → Bool) (c : Int) (p : Int) (i : Nat) : Int :=
  if g i then p
  else if d i < c then (if p < 0 ∨ d p.toNat ≥ c then (i : Int) else p)
  else if p < 0 ∨ (d p.toNat ≥ c ∧ d i > d p.toNat) then (i : Int) else p

theorem pick_found (d : Nat → Int) (g : Nat → Bool) (c : Int) : ∀ (l : List Nat) (p : Nat), d p < c → l.foldl (pickStep d g c) (p : Int) = p
  | [], p, _ => rfl
  | a :: l, p, h => by
    have e : pickStep d g c (p : Int) a = (p : Int) := by
      unfold pickStep
      simp only [Int.toNat_natCast]
      split
      · rfl
      · split
        · rw [if_neg (by omega)]
        · rw [if_neg (by omega)]
    simp only [List.foldl_cons, e]
    exact pick_found d g c l p h

theorem pick_scan (d : Nat → Int) (g : Nat → Bool) (c : Int) (hc : 0 ≤ c) (hd : ∀ a, 0 ≤ d a) : ∀ (l : List Nat) (p most : Int), (p = -1 ∧ most = -1) ∨ (∃ q : Nat, p = q ∧ d q = most ∧ c ≤ most) →
    l.foldl (pickStep d g c) p = scan d g c l p most
  | [], p, most, _ => rfl
  | a :: l, p, most, h => by
    simp only [List.foldl_cons, scan]
    by_cases hg : g a = true
    · rw [if_pos hg]
      have e : pickStep d g c p a = p := by unfold pickStep; rw [if_pos hg]
      rw [e]; exact pick_scan d g c hc hd l p most h
    · rw [if_neg hg]
      by_cases h1 : d a < c
      · rw [if_pos h1]
        have e : pickStep d g c p a = (a : Int) := by
          unfold pickStep
          rw [if_neg hg, if_pos h1, if_pos]
          rcases h with ⟨rfl, _⟩ | ⟨q, rfl, hq, hm⟩
          · left; omega
          · right; simp only [Int.toNat_natCast]; omega
        rw [e]; exact pick_found d g c l a h1
      · rw [if_neg h1]
        by_cases h2 : d a > most
        · rw [if_pos h2]
          have e : pickStep d g c p a = (a : Int) := by
            unfold pickStep
            rw [if_neg hg, if_neg h1, if_pos]
            rcases h with ⟨rfl, _⟩ | ⟨q, rfl, hq, hm⟩
            · left; omega
            · right; simp only [Int.toNat_natCast]; omega
          rw [e]; exact pick_scan d g c hc hd l a (d a) (Or.inr ⟨a, rfl, rfl, by omega⟩)
        · rw [if_neg h2]
          have e : pickStep d g c p a = p := by
            unfold pickStep
            rw [if_neg hg, if_neg h1, if_neg]
            rcases h with ⟨rfl, rfl⟩ | ⟨q, rfl, hq, hm⟩
            · have := hd a; omega
            · simp only [Int.toNat_natCast]; omega
          rw [e]; exact pick_scan d g c hc hd l p most h

theorem deg_nonneg (n A R a) : 0 ≤ deg n A R a := by unfold deg; omega

/-- the scan gives a node that is there, if there is one -/
theorem scan_mem (d : Nat → Int) (g : Nat → Bool) (c : Int) (hd : ∀ a, 0 ≤ d a) : ∀ (l : List Nat) (best most : Int), most ≥ -1 →
    ((∃ a ∈ l, g a = false) ∨ ∃ q : Nat, best = q) → (∃ a : Nat, scan d g c l best most = a ∧ ((a ∈ l ∧ g a = false) ∨ best = a)) ∨ (most > -1 ∧ scan d g c l best most = best)
  | [], best, most, _, h => by
    rcases h with ⟨a, ha, _⟩ | ⟨q, rfl⟩
    · simp at ha
    · left; exact ⟨q, rfl, .inr rfl⟩
  | a :: l, best, most, hm, h => by
    unfold scan
    by_cases hg : g a = true
    · rw [if_pos hg]
      have h' : (∃ a ∈ l, g a = false) ∨ ∃ q : Nat, best = q := by
        rcases h with ⟨b, hb, hgb⟩ | h
        · rcases List.mem_cons.1 hb with rfl | hb
          · rw [hg] at hgb; cases hgb
          · exact .inl ⟨b, hb, hgb⟩
        · exact .inr h
      rcases scan_mem d g c hd l best most hm h' with ⟨b, hb, hc⟩ | hc
      · left; refine ⟨b, hb, ?_⟩
        rcases hc with ⟨h1, h2⟩ | h1
        · exact .inl ⟨List.mem_cons_of_mem _ h1, h2⟩
        · exact .inr h1
      · exact .inr hc
    · rw [if_neg hg]
      have hg' : g a = false := by simpa using hg
      split
      · left; exact ⟨a, rfl, .inl ⟨List.mem_cons_self, hg'⟩⟩
      · split
        · rcases scan_mem d g c hd l a (d a) (by have := hd a; omega) (.inr ⟨a, rfl⟩) with ⟨b, hb, hc⟩ | ⟨_, hc⟩
          · left; refine ⟨b, hb, ?_⟩
            rcases hc with ⟨h1, h2⟩ | h1
            · exact .inl ⟨List.mem_cons_of_mem _ h1, h2⟩
            · have : a = b := by omega
              subst this
              exact .inl ⟨List.mem_cons_self, hg'⟩
          · left; exact ⟨a, hc, .inl ⟨List.mem_cons_self, hg'⟩⟩
        · by_cases hr : (∃ a ∈ l, g a = false) ∨ ∃ q : Nat, best = q
          · rcases scan_mem d g c hd l best most hm hr with ⟨b, hb, hc⟩ | hc
            · left; refine ⟨b, hb, ?_⟩
              rcases hc with ⟨h1, h2⟩ | h1
              · exact .inl ⟨List.mem_cons_of_mem _ h1, h2⟩
              · exact .inr h1
            · exact .inr hc
          · right
            have hda := hd a
            refine ⟨by omega, ?_⟩
            have hnone : ∀ b ∈ l, g b = true := fun b hb => by
              cases hgb : g b
              · exact absurd (.inl ⟨b, hb, hgb⟩) hr
              · rfl
            clear hr h hg hg'
            induction l with
            | nil => rfl
            | cons b l ih =>
              unfold scan
              rw [if_pos (hnone b List.mem_cons_self)]
              exact ih (fun x hx => hnone x (List.mem_cons_of_mem _ hx))

theorem next_ok (n A c) (R : List Nat) (h : ∃ a, a < n ∧ R.contains a = false) : ∃ a : Nat, next n A c R = a ∧ a < n ∧ R.contains a = false := by
  obtain ⟨a, ha, hg⟩ := h
  rcases scan_mem (deg n A R) (fun a => R.contains a) c (deg_nonneg n A R) (List.range n) (-1) (-1) (by omega) (.inl ⟨a, List.mem_range.2 ha, hg⟩) with ⟨b, hb, hc⟩ | ⟨h, _⟩
  · rcases hc with ⟨h1, h2⟩ | h1
    · exact ⟨b, hb, List.mem_range.1 h1, h2⟩
    · omega
  · omega

theorem order_len (n A c) : ∀ t, (order n A c t).length = t
  | 0 => rfl
  | t + 1 => by simp [order, order_len n A c t]

/-- pigeonhole -/
theorem le_of_subset : ∀ (l R : List Nat), l.Nodup → (∀ a ∈ l, a ∈ R) → l.length ≤ R.length
  | [], R, _, _ => by simp
  | a :: l, R, hn, hs => by
    obtain ⟨h1, h2⟩ := List.nodup_cons.1 hn
    have ha : a ∈ R := hs a List.mem_cons_self
    have := le_of_subset l (R.erase a) h2 (fun b hb => (List.mem_erase_of_ne (by rintro rfl; exact h1 hb)).2 (hs b (List.mem_cons_of_mem _ hb)))
    have e := List.length_erase_of_mem ha
    have hp : 0 < R.length := List.length_pos_of_mem ha
    simp only [List.length_cons]; omega

theorem le_of_subset_int : ∀ (l R : List Int), l.Nodup → (∀ a ∈ l, a ∈ R) → l.length ≤ R.length
  | [], R, _, _ => by simp
  | a :: l, R, hn, hs => by
    obtain ⟨h1, h2⟩ := List.nodup_cons.1 hn
    have ha : a ∈ R := hs a List.mem_cons_self
    have := le_of_subset_int l (R.erase a) h2 (fun b hb => (List.mem_erase_of_ne (by rintro rfl; exact h1 hb)).2 (hs b (List.mem_cons_of_mem _ hb)))
    have e := List.length_erase_of_mem ha
    have hp : 0 < R.length := List.length_pos_of_mem ha
    simp only [List.length_cons]; omega

theorem exists_left (n : Nat) (R : List Nat) (h : R.length < n) : ∃ a, a < n ∧ R.contains a = false := by
  by_cases hx : ∃ a, a < n ∧ R.contains a = false
  · exact hx
  · exfalso
    have := le_of_subset (List.range n) R List.nodup_range (fun a ha => by
      cases hc : R.contains a
      · exact absurd ⟨a, List.mem_range.1 ha, hc⟩ hx
      · simpa using hc)
    simp at this; omega

theorem order_next (n A c t) (h : t < n) : ∃ a : Nat, next n A c (order n A c t) = a ∧ a < n ∧ (order n A c t).contains a = false :=
  next_ok n A c _ (exists_left n _ (by rw [order_len]; exact h))

theorem order_ok (n A c) : ∀ t, t ≤ n → (order n A c t).Nodup ∧ ∀ a ∈ order n A c t, a < n
  | 0, _ => by simp [order]
  | t + 1, h => by
    obtain ⟨h1, h2⟩ := order_ok n A c t (by omega)
    obtain ⟨a, ha, hlt, hc⟩ := order_next n A c t (by omega)
    unfold order
    rw [ha, Int.toNat_natCast]
    have hc' : a ∉ order n A c t := by simpa using hc
    refine ⟨List.nodup_append.2 ⟨h1, by simp, fun x hx y hy => by simp at hy; subst hy; intro e; exact hc' (e ▸ hx)⟩, ?_⟩
    intro b hb
    rcases List.mem_append.1 hb with hb | hb
    · exact h2 b hb
    · simp at hb; omega

theorem order_all (n A c) (a : Nat) (h : a < n) : a ∈ order n A c n := by
  by_cases hx : a ∈ order n A c n
  · exact hx
  · exfalso
    obtain ⟨h1, h2⟩ := order_ok n A c n (Nat.le_refl _)
    have := le_of_subset (a :: order n A c n) (List.range n) (List.nodup_cons.2 ⟨hx, h1⟩) (fun b hb => by
      rcases List.mem_cons.1 hb with rfl | hb
      · exact List.mem_range.2 h
      · exact List.mem_range.2 (h2 b hb))
    simp [order_len] at this; omega

/-! ### colours -/
def free (n : Nat) (A : Nat → Nat → Bool) (out : List Int) (a : Nat) (q : Nat) : Bool := !(List.range n).any (fun b => A a b && out.getD b (-1) == (q : Int))
def colorStep (n : Nat) (A : Nat → Nat → Bool) (c : Nat) (out : List Int) (a : Nat) : List Int :=
  match (List.range c).find? (free n A out a) with
  | some q => out.set a (q : Int)
  | none => out
def colors (n : Nat) (A : Nat → Nat → Bool) (c : Nat) (l : List Nat) (out : List Int) : List Int := l.foldl (colorStep n A c) out
def color (n : Nat) (A : Nat → Nat → Bool) (c : Nat) : List Int := colors n A c (order n A c n).reverse (List.replicate n (-1))

theorem free_true {n A out a q} : free n A out a q = true ↔ ∀ b, b < n → A a b = true → out.getD b (-1) ≠ (q : Int) := by
  unfold free; simp
theorem free_false {n A out a q} (h : free n A out a q = false) : ∃ b, b < n ∧ A a b = true ∧ out.getD b (-1) = (q : Int) := by
  unfold free at h; simp at h; exact h

theorem getD_set_self (out : List Int) (a : Nat) (x d : Int) (h : a < out.length) : (out.set a x).getD a d = x := by
  simp [List.getD_eq_getElem?_getD, h]
theorem getD_set_ne (out : List Int) (a b : Nat) (x d : Int) (h : a ≠ b) : (out.set a x).getD b d = out.getD b d := by
  simp [List.getD_eq_getElem?_getD, h]

/-- what is so while the nodes of 'todo' are still to be coloured -/
structure Good (n : Nat) (A : Nat → Nat → Bool) (c : Nat) (todo : List Nat) (out : List Int) : Prop where
  len : out.length = n
  undone : ∀ a ∈ todo, out.getD a (-1) = -1
  lo : ∀ a, -1 ≤ out.getD a (-1) ∧ out.getD a (-1) < c
  proper : ∀ a b, a < n → b < n → A a b = true → out.getD a (-1) ≥ 0 → out.getD a (-1) ≠ out.getD b (-1)
  full : ∀ a, a < n → a ∉ todo → out.getD a (-1) = -1 → ∀ q : Nat, q < c → ∃ b, b < n ∧ A a b = true ∧ out.getD b (-1) = (q : Int)

theorem Good.step {n A c a todo out} (hs : ∀ a b, a < n → b < n → A a b = A b a) (hi : ∀ a, A a a = false) (ha : a < n) (hnd : a ∉ todo) (h : Good n A c (a :: todo) out) : Good n A c todo (colorStep n A c out a) := by
  have hun := h.undone a List.mem_cons_self
  unfold colorStep
  split
  · rename_i q hq
    have hq1 : q < c := List.mem_range.1 (List.mem_of_find?_eq_some hq)
    have hq2 := free_true.1 (List.find?_some hq)
    have hal : a < out.length := by rw [h.len]; exact ha
    have hget : ∀ b, (out.set a (q : Int)).getD b (-1) = if b = a then (q : Int) else out.getD b (-1) := by
      intro b
      by_cases hb : b = a
      · subst hb; rw [if_pos rfl, getD_set_self _ _ _ _ hal]
      · rw [if_neg hb, getD_set_ne _ _ _ _ _ (fun e => hb e.symm)]
    refine ⟨by simpa using h.len, ?_, ?_, ?_, ?_⟩
    · intro b hb
      have hne : b ≠ a := fun e => hnd (e ▸ hb)
      rw [hget, if_neg hne]; exact h.undone b (List.mem_cons_of_mem _ hb)
    · intro b
      rw [hget]; split
      · omega
      · exact h.lo b
    · intro x y hx hy hxy hge
      rw [hget, hget]
      rw [hget] at hge
      by_cases hxa : x = a
      · subst hxa
        rw [if_pos rfl]
        by_cases hya : y = x
        · subst hya; rw [hi] at hxy; cases hxy
        · rw [if_neg hya]; exact fun e => hq2 y hy hxy e.symm
      · rw [if_neg hxa] at hge ⊢
        by_cases hya : y = a
        · subst hya
          rw [if_pos rfl]
          exact hq2 x hx (by rw [hs y x hy hx]; exact hxy)
        · rw [if_neg hya]; exact h.proper x y hx hy hxy hge
    · intro x hx hxt hxn p hp
      rw [hget] at hxn
      by_cases hxa : x = a
      · rw [if_pos hxa] at hxn; omega
      · rw [if_neg hxa] at hxn
        obtain ⟨b, hb1, hb2, hb3⟩ := h.full x hx (by simp [hxa, hxt]) hxn p hp
        refine ⟨b, hb1, hb2, ?_⟩
        rw [hget, if_neg]
        · exact hb3
        · intro e; subst e; omega
  · rename_i hq
    refine ⟨h.len, fun b hb => h.undone b (List.mem_cons_of_mem _ hb), h.lo, h.proper, ?_⟩
    intro x hx hxt hxn p hp
    by_cases hxa : x = a
    · subst hxa
      have := List.find?_eq_none.1 hq p (List.mem_range.2 hp)
      exact free_false (by simpa using this)
    · exact h.full x hx (by simp [hxa, hxt]) hxn p hp

theorem Good.all {n A c} (hs : ∀ a b, a < n → b < n → A a b = A b a) (hi : ∀ a, A a a = false) : ∀ (todo : List Nat) (out : List Int), todo.Nodup → (∀ a ∈ todo, a < n) → Good n A c todo out → Good n A c [] (colors n A c todo out)
  | [], out, _, _, h => h
  | a :: todo, out, hn, hlt, h => by
    obtain ⟨h1, h2⟩ := List.nodup_cons.1 hn
    exact Good.all hs hi todo _ h2 (fun b hb => hlt b (List.mem_cons_of_mem _ hb)) (h.step hs hi (hlt a List.mem_cons_self) h1)

theorem color_good {n A c} (hs : ∀ a b, a < n → b < n → A a b = A b a) (hi : ∀ a, A a a = false) : Good n A c [] (color n A c) := by
  obtain ⟨h1, h2⟩ := order_ok n A c n (Nat.le_refl _)
  refine Good.all hs hi _ _ ?_ (fun a ha => h2 a (List.mem_reverse.1 ha)) ?_
  · unfold List.Nodup at h1 ⊢
    rw [List.pairwise_reverse]
    exact h1.imp (fun h => h.symm)
  have hget : ∀ a, (List.replicate n (-1 : Int)).getD a (-1) = -1 := by
    intro a; simp [List.getD_eq_getElem?_getD, List.getElem?_replicate]; split <;> rfl
  refine ⟨by simp, fun a _ => hget a, fun a => by rw [hget]; omega, fun a b _ _ _ h => by rw [hget] at h; omega, fun a ha hna _ => ?_⟩
  exact absurd (List.mem_reverse.2 (order_all n A c a ha)) hna

theorem colors_len (n A c) : ∀ (l : List Nat) (out : List Int), (colors n A c l out).length = out.length
  | [], out => rfl
  | a :: l, out => by
    show (colors n A c l (colorStep n A c out a)).length = _
    rw [colors_len n A c l]; unfold colorStep; split <;> simp
theorem color_len (n A c) : (color n A c).length = n := by unfold color; rw [colors_len]; simp

/-- only the adjacency of nodes counts -/
theorem deg_congr {n A B R a} (h : ∀ a b, a < n → b < n → A a b = B a b) (ha : a < n) : deg n A R a = deg n B R a := by
  unfold deg
  congr 1
  apply List.countP_congr
  intro b hb
  rw [h a b ha (List.mem_range.1 hb)]
theorem scan_congr {d d' : Nat → Int} {g c} : ∀ (l : List Nat) (best most : Int), (∀ a ∈ l, d a = d' a) → scan d g c l best most = scan d' g c l best most
  | [], _, _, _ => rfl
  | a :: l, best, most, h => by
    unfold scan
    rw [h a List.mem_cons_self]
    have h' : ∀ b ∈ l, d b = d' b := fun b hb => h b (List.mem_cons_of_mem _ hb)
    rw [scan_congr l _ _ h', scan_congr l _ _ h', ]
theorem order_congr {n A B c} (h : ∀ a b, a < n → b < n → A a b = B a b) : ∀ t, order n A c t = order n B c t
  | 0 => rfl
  | t + 1 => by
    unfold order
    rw [order_congr h t]
    unfold next
    rw [scan_congr _ _ _ (fun a ha => deg_congr h (List.mem_range.1 ha))]
theorem free_congr {n A B out a q} (h : ∀ a b, a < n → b < n → A a b = B a b) (ha : a < n) : free n A out a q = free n B out a q := by
  have : ∀ l : List Nat, (∀ b ∈ l, b < n) → l.any (fun b => A a b && out.getD b (-1) == (q : Int)) = l.any (fun b => B a b && out.getD b (-1) == (q : Int)) := by
    intro l
    induction l with
    | nil => intro _; rfl
    | cons b l ih => intro hl; simp only [List.any_cons]; rw [h a b ha (hl b List.mem_cons_self), ih (fun x hx => hl x (List.mem_cons_of_mem _ hx))]
  unfold free
  rw [this _ (fun b hb => List.mem_range.1 hb)]
theorem colors_congr {n A B c} (h : ∀ a b, a < n → b < n → A a b = B a b) : ∀ (l : List Nat) (out : List Int), (∀ a ∈ l, a < n) → colors n A c l out = colors n B c l out
  | [], _, _ => rfl
  | a :: l, out, hl => by
    show colors n A c l (colorStep n A c out a) = colors n B c l (colorStep n B c out a)
    have e : colorStep n A c out a = colorStep n B c out a := by
      unfold colorStep
      rw [show free n A out a = free n B out a from funext fun q => free_congr h (hl a List.mem_cons_self)]
    rw [e]
    exact colors_congr h l _ (fun b hb => hl b (List.mem_cons_of_mem _ hb))
theorem color_congr {n A B c} (h : ∀ a b, a < n → b < n → A a b = B a b) : color n A c = color n B c := by
  unfold color
  rw [order_congr h]
  exact colors_congr h _ _ (fun a ha => (order_ok n B c n (Nat.le_refl _)).2 a (List.mem_reverse.1 ha))

/-- fewer neighbours than colours: every node gets one -/
theorem color_few {n A c} (hs : ∀ a b, a < n → b < n → A a b = A b a) (hi : ∀ a, A a a = false) (a : Nat) (ha : a < n) (hd : (List.range n).countP (fun b => A a b) < c) : 0 ≤ (color n A c).getD a (-1) := by
  have G := color_good (c := c) hs hi
  have hlo := (G.lo a).1
  by_cases hx : (color n A c).getD a (-1) = -1
  · exfalso
    have hf := G.full a ha (by simp) hx
    have := le_of_subset_int ((List.range c).map (fun q : Nat => (q : Int))) (((List.range n).filter (fun b => A a b)).map (fun b => (color n A c).getD b (-1)))
      (by unfold List.Nodup; rw [List.pairwise_map]; exact List.nodup_range.imp (fun h e => h (by omega))) (by
        intro q hq
        obtain ⟨p, hp, rfl⟩ := List.mem_map.1 hq
        obtain ⟨b, hb, hab, he⟩ := hf p (List.mem_range.1 hp)
        exact List.mem_map.2 ⟨b, List.mem_filter.2 ⟨List.mem_range.2 hb, hab⟩, he⟩)
    simp only [List.length_map, List.length_range] at this
    rw [List.countP_eq_length_filter] at hd
    omega
  · omega

end Go.Proofs.Ytefkkgldlijbbaa.ColorLaw
