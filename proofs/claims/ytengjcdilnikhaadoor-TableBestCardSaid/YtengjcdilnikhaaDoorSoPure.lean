/-
  Stable sorts: plain laws.
-/
namespace Go.Proofs.YtengjcdilnikhaaDoor.So
set_option linter.unusedSimpArgs false
set_option linter.unusedVariables false
set_option linter.unnecessarySimpa false

variable {α : Type}
/-- rising by a key -/
abbrev Srt (k : α → Int) (l : List α) : Prop := l.Pairwise fun x y => k x ≤ k y
/-- those of one key stand in the same order -/
def FEq (k : α → Int) (l r : List α) : Prop := ∀ c : Int, l.filter (fun x => decide (k x = c)) = r.filter (fun x => decide (k x = c))

theorem FEq.refl (k : α → Int) (l : List α) : FEq k l l := fun _ => rfl
theorem FEq.symm {k : α → Int} {l r : List α} (h : FEq k l r) : FEq k r l := fun c => (h c).symm
theorem FEq.trans {k : α → Int} {l r s : List α} (h : FEq k l r) (g : FEq k r s) : FEq k l s := fun c => (h c).trans (g c)
theorem FEq.app {k : α → Int} {l r a b : List α} (h : FEq k l r) (g : FEq k a b) : FEq k (l ++ a) (r ++ b) := fun c => by
  rw [List.filter_append, List.filter_append, h c, g c]
theorem FEq.mem {k : α → Int} {l r : List α} (h : FEq k l r) (x : α) : x ∈ l ↔ x ∈ r := by
  have a : ∀ s : List α, x ∈ s ↔ x ∈ s.filter (fun y => decide (k y = k x)) := fun s => by simp
  rw [a l, a r, h (k x)]
theorem FEq.swap {k : α → Int} {u v : List α} (h : ∀ x ∈ u, ∀ y ∈ v, k x ≠ k y) : FEq k (u ++ v) (v ++ u) := fun c => by
  rw [List.filter_append, List.filter_append]
  by_cases e : u.filter (fun x => decide (k x = c)) = []
  · rw [e]; simp
  · have : v.filter (fun x => decide (k x = c)) = [] := by
      rw [List.filter_eq_nil_iff]
      intro y hy hc
      obtain ⟨x, hx⟩ := List.exists_mem_of_ne_nil _ e
      obtain ⟨h1, h2⟩ := List.mem_filter.1 hx
      simp only [decide_eq_true_eq] at hc h2
      exact h x h1 y hy (h2.trans hc.symm)
    rw [this]; simp

/-- there is but one that rises -/
theorem unique {k : α → Int} : ∀ {l r : List α}, Srt k l → Srt k r → FEq k l r → l = r
  | [], [], _, _, _ => rfl
  | [], y :: r, _, _, h => absurd ((h.mem y).2 (by simp)) (by simp)
  | x :: l, [], _, _, h => absurd ((h.mem x).1 (by simp)) (by simp)
  | x :: l, y :: r, hl, hr, h => by
    have hl' := List.pairwise_cons.1 hl
    have hr' := List.pairwise_cons.1 hr
    have e : k x = k y := by
      have h1 : k y ≤ k x := by
        rcases List.mem_cons.1 ((h.mem x).1 (by simp)) with e | e
        · rw [e]; exact Int.le_refl _
        · exact hr'.1 x e
      have h2 : k x ≤ k y := by
        rcases List.mem_cons.1 ((h.mem y).2 (by simp)) with e | e
        · rw [e]; exact Int.le_refl _
        · exact hl'.1 y e
      omega
    have h1 := h (k x)
    rw [List.filter_cons_of_pos (by simp), List.filter_cons_of_pos (by simp [e])] at h1
    obtain ⟨rfl, h2⟩ := List.cons.inj h1
    have : FEq k l r := fun c => by
      by_cases hc : k x = c
      · subst hc; exact h2
      · have := h c
        rwa [List.filter_cons_of_neg (by simp [hc]), List.filter_cons_of_neg (by simp [hc])] at this
    rw [unique hl'.2 hr'.2 this]

theorem Srt.app {k : α → Int} {l r : List α} (hl : Srt k l) (hr : Srt k r) (h : ∀ x ∈ l, ∀ y ∈ r, k x ≤ k y) : Srt k (l ++ r) := List.pairwise_append.2 ⟨hl, hr, h⟩
theorem Srt.get {k : α → Int} {l : List α} (h : Srt k l) {i j : Nat} (hij : i ≤ j) (hj : j < l.length) : k (l[i]'(by omega)) ≤ k l[j] := by
  by_cases e : i = j
  · subst e; exact Int.le_refl _
  · exact List.pairwise_iff_getElem.1 h i j (by omega) hj (by omega)
theorem Srt.take {k : α → Int} {l : List α} (h : Srt k l) (n : Nat) : Srt k (l.take n) := h.sublist (List.take_sublist n l)
theorem Srt.drop {k : α → Int} {l : List α} (h : Srt k l) (n : Nat) : Srt k (l.drop n) := h.sublist (List.drop_sublist n l)
/-- the parts of a list that rises -/
theorem Srt.cut {k : α → Int} {l : List α} (h : Srt k l) (n : Nat) : ∀ x ∈ l.take n, ∀ y ∈ l.drop n, k x ≤ k y := by
  have := h
  rw [← List.take_append_drop n l] at this
  exact (List.pairwise_append.1 this).2.2

/-- one element let into a list that rises, ahead of those that are not below it -/
theorem let_in {k : α → Int} {x : α} {b : List α} (h : Srt k b) (n : Nat) (h1 : ∀ y ∈ b.take n, k y < k x) (h2 : ∀ y ∈ b.drop n, k x ≤ k y) :
    Srt k (b.take n ++ x :: b.drop n) ∧ FEq k (x :: b) (b.take n ++ x :: b.drop n) := by
  refine ⟨(h.take n).app (List.pairwise_cons.2 ⟨h2, h.drop n⟩) (fun y hy z hz => ?_), ?_⟩
  · rcases List.mem_cons.1 hz with rfl | hz
    · exact Int.le_of_lt (h1 y hy)
    · exact h.cut n y hy z hz
  · have a : FEq k ([x] ++ b.take n) (b.take n ++ [x]) := FEq.swap fun z hz y hy => by
      rw [List.mem_singleton.1 hz]; have := h1 y hy; omega
    have := a.app (FEq.refl k (b.drop n))
    rw [List.append_assoc, List.take_append_drop, List.append_assoc] at this
    exact this
/-- .. behind those that are not above it -/
theorem let_in2 {k : α → Int} {y : α} {a : List α} (h : Srt k a) (n : Nat) (h1 : ∀ x ∈ a.take n, k x ≤ k y) (h2 : ∀ x ∈ a.drop n, k y < k x) :
    Srt k (a.take n ++ y :: a.drop n) ∧ FEq k (a ++ [y]) (a.take n ++ y :: a.drop n) := by
  refine ⟨(h.take n).app (List.pairwise_cons.2 ⟨fun z hz => Int.le_of_lt (h2 z hz), h.drop n⟩) (fun x hx z hz => ?_), ?_⟩
  · rcases List.mem_cons.1 hz with rfl | hz
    · exact h1 x hx
    · exact h.cut n x hx z hz
  · have b : FEq k (a.drop n ++ [y]) ([y] ++ a.drop n) := FEq.swap fun x hx z hz => by
      rw [List.mem_singleton.1 hz]; have := h2 x hx; omega
    have := (FEq.refl k (a.take n)).app b
    rw [← List.append_assoc, List.take_append_drop] at this
    exact this

/-- two lists that rise, cut so that what is exchanged has no two of one key -/
theorem sym_cut {k : α → Int} {a1 a2 b1 b2 r1 r2 : List α} (ha : Srt k (a1 ++ a2)) (hb : Srt k (b1 ++ b2)) (h1 : ∀ x ∈ a2, ∀ y ∈ b1, k y < k x) (h2 : ∀ x ∈ a1, ∀ y ∈ b2, k x ≤ k y)
    (s1 : Srt k r1) (e1 : FEq k (a1 ++ b1) r1) (s2 : Srt k r2) (e2 : FEq k (a2 ++ b2) r2) : Srt k (r1 ++ r2) ∧ FEq k ((a1 ++ a2) ++ (b1 ++ b2)) (r1 ++ r2) := by
  have ha' := (List.pairwise_append.1 ha).2.2
  have hb' := (List.pairwise_append.1 hb).2.2
  refine ⟨s1.app s2 fun x hx y hy => ?_, ?_⟩
  · have hx' := (e1.mem x).2 hx
    have hy' := (e2.mem y).2 hy
    rcases List.mem_append.1 hx' with hx | hx <;> rcases List.mem_append.1 hy' with hy | hy
    · exact ha' x hx y hy
    · exact h2 x hx y hy
    · exact Int.le_of_lt (h1 y hy x hx)
    · exact hb' x hx y hy
  · have sw : FEq k (a2 ++ b1) (b1 ++ a2) := FEq.swap fun x hx y hy => by have := h1 x hx y hy; omega
    have := ((FEq.refl k a1).app sw).app (FEq.refl k b2)
    have g := e1.app e2
    simp only [List.append_assoc] at this g ⊢
    exact this.trans g

/-- a boundary found, all that stands ahead, and behind -/
theorem bound {k : α → Int} {a b : List α} (ha : Srt k a) (hb : Srt k b) {i j : Nat} (hi : i ≤ a.length) (hj : j ≤ b.length)
    (h1 : ∀ (h : 0 < i) (h' : j < b.length), k (a[i - 1]'(by omega)) ≤ k b[j]) (h2 : ∀ (h : i < a.length) (h' : 0 < j), k (b[j - 1]'(by omega)) < k a[i]) :
    (∀ x ∈ a.drop i, ∀ y ∈ b.take j, k y < k x) ∧ (∀ x ∈ a.take i, ∀ y ∈ b.drop j, k x ≤ k y) := by
  refine ⟨fun x hx y hy => ?_, fun x hx y hy => ?_⟩
  · obtain ⟨n, hn, rfl⟩ := List.mem_iff_getElem.1 hx
    obtain ⟨m, hm, rfl⟩ := List.mem_iff_getElem.1 hy
    rw [List.length_drop] at hn
    rw [List.length_take] at hm
    rw [List.getElem_drop, List.getElem_take]
    have g1 := h2 (by omega) (by omega)
    have g2 := ha.get (i := i) (j := i + n) (by omega) (by omega)
    have g3 := hb.get (i := m) (j := j - 1) (by omega) (by omega)
    omega
  · obtain ⟨n, hn, rfl⟩ := List.mem_iff_getElem.1 hx
    obtain ⟨m, hm, rfl⟩ := List.mem_iff_getElem.1 hy
    rw [List.length_take] at hn
    rw [List.length_drop] at hm
    rw [List.getElem_take, List.getElem_drop]
    have g1 := h1 (by omega) (by omega)
    have g2 := ha.get (i := n) (j := i - 1) (by omega) (by omega)
    have g3 := hb.get (i := j) (j := j + m) (by omega) (by omega)
    omega

/-! ### two parts exchanged, element by element -/
def swp (d : List α) (i j : Nat) : List α := match d[i]?, d[j]? with
  | some x, some y => (d.set i y).set j x
  | _, _ => d

theorem swp_len (d : List α) (i j : Nat) : (swp d i j).length = d.length := by
  unfold swp
  split <;> simp
theorem swp_two (p q s : List α) (x y : α) {i j : Nat} (hi : i = p.length) (hj : j = p.length + 1 + q.length) : swp (p ++ x :: (q ++ y :: s)) i j = p ++ y :: (q ++ x :: s) := by
  subst hi; subst hj
  have h1 : (p ++ x :: (q ++ y :: s))[p.length]? = some x := by simp
  have h2 : (p ++ x :: (q ++ y :: s))[p.length + 1 + q.length]? = some y := by
    rw [List.getElem?_append_right (by omega), show p.length + 1 + q.length - p.length = q.length + 1 by omega, List.getElem?_cons_succ]
    simp
  unfold swp
  rw [h1, h2]
  simp only
  rw [List.set_append_right _ _ (Nat.le_refl _), Nat.sub_self, List.set_cons_zero, List.set_append_right _ _ (by omega), show p.length + 1 + q.length - p.length = q.length + 1 by omega, List.set_cons_succ, List.set_append_right _ _ (Nat.le_refl _), Nat.sub_self, List.set_cons_zero]

/-- .. so many of them -/
def mix (p x q y s : List α) (i : Nat) : List α := p ++ ((y.take i ++ x.drop i) ++ (q ++ ((x.take i ++ y.drop i) ++ s)))
theorem mix_zero (p x q y s : List α) : mix p x q y s 0 = p ++ (x ++ (q ++ (y ++ s))) := by simp [mix]
theorem mix_all (p x q y s : List α) (h : x.length = y.length) : mix p x q y s x.length = p ++ (y ++ (q ++ (x ++ s))) := by
  unfold mix
  rw [List.take_length, h, List.take_length, ← h, List.drop_length, h, List.drop_length]; simp
theorem mix_step (p x q y s : List α) (h : x.length = y.length) {i : Nat} (hi : i < x.length) : swp (mix p x q y s i) (p.length + i) (p.length + x.length + q.length + i) = mix p x q y s (i + 1) := by
  have h2 : i < y.length := by omega
  have e1 : mix p x q y s i = (p ++ y.take i) ++ x[i] :: ((x.drop (i + 1) ++ (q ++ x.take i)) ++ y[i] :: (y.drop (i + 1) ++ s)) := by
    unfold mix
    rw [List.drop_eq_getElem_cons hi, List.drop_eq_getElem_cons h2]
    simp only [List.append_assoc, List.cons_append]
  have e2 : mix p x q y s (i + 1) = (p ++ y.take i) ++ y[i] :: ((x.drop (i + 1) ++ (q ++ x.take i)) ++ x[i] :: (y.drop (i + 1) ++ s)) := by
    unfold mix
    rw [List.take_succ_eq_append_getElem hi, List.take_succ_eq_append_getElem h2]
    simp only [List.append_assoc, List.cons_append, List.nil_append]
  rw [e1, e2]
  refine swp_two _ _ _ _ _ ?_ ?_
  · rw [List.length_append, List.length_take]; omega
  · simp only [List.length_append, List.length_take, List.length_drop]; omega
theorem mix_len (p x q y s : List α) (h : x.length = y.length) {i : Nat} (hi : i ≤ x.length) : (mix p x q y s i).length = p.length + x.length + q.length + y.length + s.length := by
  unfold mix
  simp only [List.length_append, List.length_take, List.length_drop]
  omega
end Go.Proofs.YtengjcdilnikhaaDoor.So
