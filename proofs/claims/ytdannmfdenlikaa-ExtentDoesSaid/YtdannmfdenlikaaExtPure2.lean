/-
  Extents, plainly: which sectors are free behind a take, a keep, a give.
-/
import Derived.Test.YtdannmfdenlikaaExtPure
namespace Go.Proofs.Ytdannmfdenlikaa
set_option linter.unusedSimpArgs false
set_option linter.unusedVariables false
set_option linter.unnecessarySimpa false
open Go Am

theorem cnt_pos {l : List Ext} {e : Ext} {p : Int} (he : e ∈ l) (hp : ind e p = 1) : 1 ≤ cnt l p := by
  induction l with
  | nil => cases he
  | cons x l ih =>
    rw [cnt_cons]
    rcases List.mem_cons.1 he with rfl | he
    · omega
    · have := ih he; omega

theorem cnt_mem {l : List Ext} {p : Int} (h : 0 < cnt l p) : ∃ e ∈ l, ind e p = 1 := by
  induction l with
  | nil => simp [cnt] at h
  | cons x l ih =>
    rw [cnt_cons] at h
    by_cases hx : ind x p = 1
    · exact ⟨x, by simp, hx⟩
    · have := ind_le x p
      obtain ⟨e, he, h2⟩ := ih (by omega)
      exact ⟨e, by simp [he], h2⟩

theorem ind_iff {e : Ext} {p : Int} : ind e p = 1 ↔ e.at_ ≤ p ∧ p < e.at_ + e.len := by
  unfold ind
  split <;> simp_all

theorem cnt_low {l : List Ext} {lo p : Int} (h : Srt lo l) (hp : p ≤ lo) : cnt l p = 0 := by
  rcases Nat.eq_zero_or_pos (cnt l p) with h0 | h0
  · exact h0
  · obtain ⟨e, he, h1⟩ := cnt_mem h0
    have := h.mem e he
    have := ind_iff.1 h1
    omega

theorem cnt_le : ∀ {l : List Ext} {lo : Int} (p : Int), Srt lo l → cnt l p ≤ 1
  | [], _, _, _ => by simp [cnt]
  | e :: l, lo, p, ⟨h1, h2, h3⟩ => by
    rw [cnt_cons]
    have a1 := ind_le e p
    have a2 := cnt_le p h3
    by_cases hp : p ≤ e.at_ + e.len
    · rw [cnt_low h3 hp]; omega
    · rw [ind_zero (by omega)]; omega

/-- what is free tells the extents -/
theorem cnt_inj : ∀ {l l' : List Ext} {lo : Int}, Srt lo l → Srt lo l' → (∀ p, cnt l p = cnt l' p) → l = l'
  | [], [], _, _, _, _ => rfl
  | [], e :: l', lo, _, ⟨h1, h2, h3⟩, h => by
    have := h e.at_
    rw [cnt_cons, ind_pos (Int.le_refl _) (by omega)] at this
    simp [cnt] at this; omega
  | e :: l, [], lo, ⟨h1, h2, h3⟩, _, h => by
    have := h e.at_
    rw [cnt_cons, ind_pos (Int.le_refl _) (by omega)] at this
    simp [cnt] at this
  | e :: l, e' :: l', lo, ⟨h1, h2, h3⟩, ⟨g1, g2, g3⟩, h => by
    have hat : e.at_ = e'.at_ := by
      rcases Int.lt_trichotomy e.at_ e'.at_ with hh | hh | hh
      · have := h e.at_
        rw [cnt_cons, cnt_cons, ind_pos (Int.le_refl _) (by omega), ind_zero (by omega), cnt_low g3 (by omega)] at this
        omega
      · exact hh
      · have := h e'.at_
        rw [cnt_cons, cnt_cons, ind_pos (e := e') (Int.le_refl _) (by omega), ind_zero (by omega), cnt_low h3 (by omega)] at this
        omega
    have hlen : e.len = e'.len := by
      rcases Int.lt_trichotomy e.len e'.len with hh | hh | hh
      · have := h (e.at_ + e.len)
        rw [cnt_cons, cnt_cons, ind_zero (by omega), ind_pos (e := e') (by omega) (by omega), cnt_low h3 (by omega)] at this
        omega
      · exact hh
      · have := h (e'.at_ + e'.len)
        rw [cnt_cons, cnt_cons, ind_zero (e := e') (by omega), ind_pos (e := e) (by omega) (by omega), cnt_low g3 (by omega)] at this
        omega
    have hee : e = e' := by cases e; cases e'; simp_all
    subst hee
    rw [cnt_inj h3 g3 (fun p => by have := h p; rw [cnt_cons, cnt_cons] at this; omega)]

theorem chk_inj {x y : Exts} (hx : chk x = 0) (hy : chk y = 0) (hs : x.size = y.size) (h : ∀ p, cnt x.free p = cnt y.free p) : x = y := by
  obtain ⟨_, _, h1, _⟩ := chk_iff.1 hx
  obtain ⟨_, _, h2, _⟩ := chk_iff.1 hy
  have := cnt_inj h1 h2 h
  cases x; cases y; simp_all

theorem cnt_in {x : Exts} {p : Int} (hc : chk x = 0) (h : 0 < cnt x.free p) : 0 ≤ p ∧ p < x.size := by
  obtain ⟨_, _, h1, h2⟩ := chk_iff.1 hc
  obtain ⟨e, he, h3⟩ := cnt_mem h
  have a1 := h1.mem e he
  have a2 := h2 e he
  have a3 := ind_iff.1 h3
  omega

def lens (l : List Ext) : Int := (l.map (·.len)).sum
theorem lens_cons (e : Ext) (l : List Ext) : lens (e :: l) = e.len + lens l := by simp [lens]
theorem lens_app (a b : List Ext) : lens (a ++ b) = lens a + lens b := by simp [lens]

structure TakeOK (x : Exts) (n : Int) (s : Ext) (y : Exts) : Prop where
  len : s.len = n
  at0 : 0 ≤ s.at_
  end_ : s.at_ + n ≤ x.size
  some : ∃ e ∈ x.free, e.at_ = s.at_ ∧ n ≤ e.len
  first : ∀ e ∈ x.free, n ≤ e.len → s.at_ ≤ e.at_
  chk : Go.Proofs.Ytdannmfdenlikaa.chk y = 0
  size : y.size = x.size
  cnt : ∀ p, Go.Proofs.Ytdannmfdenlikaa.cnt y.free p + ind s p = Go.Proofs.Ytdannmfdenlikaa.cnt x.free p
  lens : Go.Proofs.Ytdannmfdenlikaa.lens y.free + n = Go.Proofs.Ytdannmfdenlikaa.lens x.free
  count : y.free.length ≤ x.free.length

theorem take_law {x : Exts} {n : Int} (hc : chk x = 0) (hn : 1 ≤ n) (hn2 : n ≤ 9223372036854775807) :
    (takeX x n = (⟨0, 0⟩, ⟨0, []⟩, 6) ∧ ∀ e ∈ x.free, e.len < n) ∨ ∃ s y, takeX x n = (s, y, 0) ∧ TakeOK x n s y := by
  rcases take_cases hc hn hn2 with h | ⟨A, e, B, h1, h2, h3, h4⟩
  · exact .inl h
  · right
    obtain ⟨g0, g1, hs, hv⟩ := chk_iff.1 hc
    have hem : e ∈ x.free := by rw [h1]; simp
    have a1 := hs.mem e hem
    have a2 := hv e hem
    rw [h1, Srt.app] at hs
    obtain ⟨s1, s2, s3, s4⟩ := hs
    refine ⟨_, _, h4, ⟨rfl, by simp only; omega, by simp only; omega, ⟨e, hem, rfl, h2⟩, fun b hb hbn => ?_, ?_, rfl, fun p => ?_, ?_, ?_⟩⟩
    · rw [h1] at hb
      rcases List.mem_append.1 hb with hb | hb
      · have := h3 b hb; omega
      · rcases List.mem_cons.1 hb with rfl | hb
        · exact Int.le_refl _
        · have := s4.mem b hb; simp only; omega
    · refine chk_iff.2 ⟨g0, g1, ?_, fun b hb => ?_⟩
      · simp only [Srt.app]
        refine ⟨s1, ?_⟩
        split
        · exact s4.le (by omega)
        · refine ⟨by simp only; omega, by simp only; omega, ?_⟩
          rw [show (⟨e.at_ + n, e.len - n⟩ : Ext).at_ + (⟨e.at_ + n, e.len - n⟩ : Ext).len = e.at_ + e.len by simp only; omega]
          exact s4
      · simp only at hb ⊢
        rcases List.mem_append.1 hb with hb | hb
        · exact hv b (by rw [h1]; simp [hb])
        · split at hb
          · exact hv b (by rw [h1]; simp [hb])
          · rcases List.mem_cons.1 hb with rfl | hb
            · simp only; omega
            · exact hv b (by rw [h1]; simp [hb])
    · rw [h1]
      simp only [cnt_app, cnt_cons]
      split
      · have : ind (⟨e.at_, n⟩ : Ext) p = ind e p := by unfold ind; simp only; rename_i hh; rw [hh]
        omega
      · rw [cnt_cons]
        have : ind (⟨e.at_ + n, e.len - n⟩ : Ext) p + ind (⟨e.at_, n⟩ : Ext) p = ind e p := by unfold ind; simp only; (repeat' split) <;> omega
        omega
    · rw [h1]
      simp only [lens_app, lens_cons]
      split
      · omega
      · rw [lens_cons]; simp only; omega
    · rw [h1]
      simp only [List.length_append, List.length_cons]
      split <;> simp

structure KeepOK (x : Exts) (s : Ext) (y : Exts) : Prop where
  all : ∃ f ∈ x.free, f.at_ ≤ s.at_ ∧ s.at_ + s.len ≤ f.at_ + f.len
  chk : Go.Proofs.Ytdannmfdenlikaa.chk y = 0
  size : y.size = x.size
  cnt : ∀ p, Go.Proofs.Ytdannmfdenlikaa.cnt y.free p + ind s p = Go.Proofs.Ytdannmfdenlikaa.cnt x.free p
  lens : Go.Proofs.Ytdannmfdenlikaa.lens y.free + s.len = Go.Proofs.Ytdannmfdenlikaa.lens x.free
  count : y.free.length ≤ x.free.length + 1

theorem keep_law {x : Exts} {s : Ext} (hc : chk x = 0) (hf : fitsB x.size s = true) :
    (keepX x s = (⟨0, []⟩, 4) ∧ ∀ f ∈ x.free, ¬ (f.at_ ≤ s.at_ ∧ s.at_ + s.len ≤ f.at_ + f.len)) ∨ ∃ y, keepX x s = (y, 0) ∧ KeepOK x s y := by
  rcases keep_cases hc hf with h | ⟨A, f, B, h1, h2, h3, h4⟩
  · exact .inl h
  · right
    obtain ⟨g0, g1, hs, hv⟩ := chk_iff.1 hc
    obtain ⟨f1, f2, f3⟩ := (fits_iff g0 g1).1 hf
    have hem : f ∈ x.free := by rw [h1]; simp
    have a1 := hs.mem f hem
    have a2 := hv f hem
    rw [h1, Srt.app] at hs
    obtain ⟨s1, s2, s3, s4⟩ := hs
    have hrest : Srt (endOf (-1) A) (rest f s ++ B) ∧ (∀ b ∈ rest f s, b.at_ + b.len ≤ x.size) ∧ (∀ p, cnt (rest f s) p + ind s p = ind f p) ∧ lens (rest f s) + s.len = f.len ∧ (rest f s).length ≤ 2 := by
      unfold rest
      by_cases c1 : f.at_ < s.at_ <;> by_cases c2 : s.at_ + s.len < f.at_ + f.len
      · rw [if_pos c1, if_pos c2]
        refine ⟨⟨s2, by simp only; omega, by simp only; omega, by simp only; omega, ?_⟩, by simp; omega, fun p => ?_, by simp [lens]; omega, by simp⟩
        · rw [show (⟨s.at_ + s.len, f.at_ + f.len - (s.at_ + s.len)⟩ : Ext).at_ + (⟨s.at_ + s.len, f.at_ + f.len - (s.at_ + s.len)⟩ : Ext).len = f.at_ + f.len by simp only; omega]
          exact s4
        · simp only [List.cons_append, List.nil_append, cnt_cons, cnt_nil]
          unfold ind; simp only; (repeat' split) <;> omega
      · rw [if_pos c1, if_neg c2]
        refine ⟨⟨s2, by simp only; omega, ?_⟩, by simp; omega, fun p => ?_, by simp [lens]; omega, by simp⟩
        · simp only [List.nil_append]; exact s4.le (by omega)
        · simp only [List.append_nil, cnt_cons, cnt_nil]
          unfold ind; simp only; (repeat' split) <;> omega
      · rw [if_neg c1, if_pos c2]
        refine ⟨⟨by simp only; omega, by simp only; omega, ?_⟩, by simp; omega, fun p => ?_, by simp [lens]; omega, by simp⟩
        · rw [show (⟨s.at_ + s.len, f.at_ + f.len - (s.at_ + s.len)⟩ : Ext).at_ + (⟨s.at_ + s.len, f.at_ + f.len - (s.at_ + s.len)⟩ : Ext).len = f.at_ + f.len by simp only; omega]
          exact s4
        · simp only [List.nil_append, cnt_cons, cnt_nil]
          unfold ind; simp only; (repeat' split) <;> omega
      · rw [if_neg c1, if_neg c2]
        refine ⟨?_, by simp, fun p => ?_, by simp [lens]; omega, by simp⟩
        · simp only [List.nil_append]; exact s4.le (by omega)
        · simp only [List.append_nil, cnt_nil]
          unfold ind; (repeat' split) <;> omega
    obtain ⟨r1, r2, r3, r4, r5⟩ := hrest
    refine ⟨_, h4, ⟨⟨f, hem, h2, h3⟩, chk_iff.2 ⟨g0, g1, Srt.app.2 ⟨s1, r1⟩, fun b hb => ?_⟩, rfl, fun p => ?_, ?_, ?_⟩⟩
    · simp only at hb ⊢
      rcases List.mem_append.1 hb with hb | hb
      · exact hv b (by rw [h1]; simp [hb])
      · rcases List.mem_append.1 hb with hb | hb
        · exact r2 b hb
        · exact hv b (by rw [h1]; simp [hb])
    · rw [h1]
      simp only [cnt_app, cnt_cons]
      have := r3 p
      omega
    · rw [h1]
      simp only [lens_app, lens_cons]
      omega
    · rw [h1]
      simp only [List.length_append, List.length_cons]
      omega

structure GiveOK (x : Exts) (s : Ext) (y : Exts) : Prop where
  none : ∀ p, ind s p = 1 → Go.Proofs.Ytdannmfdenlikaa.cnt x.free p = 0
  chk : Go.Proofs.Ytdannmfdenlikaa.chk y = 0
  size : y.size = x.size
  cnt : ∀ p, Go.Proofs.Ytdannmfdenlikaa.cnt y.free p = Go.Proofs.Ytdannmfdenlikaa.cnt x.free p + ind s p
  count : y.free.length ≤ x.free.length + 1

theorem give_law {x : Exts} {s : Ext} (hc : chk x = 0) (hf : fitsB x.size s = true) :
    (giveX x s = (⟨0, []⟩, 5) ∧ ∃ p, ind s p = 1 ∧ cnt x.free p = 1) ∨ ∃ y, giveX x s = (y, 0) ∧ GiveOK x s y := by
  obtain ⟨g0, g1, hs, hv⟩ := chk_iff.1 hc
  obtain ⟨f1, f2, f3⟩ := (fits_iff g0 g1).1 hf
  obtain ⟨A, M, B, h1, h2, h3, h4, h5⟩ := give_cases hc hf
  have hs0 := hs
  rw [h1, Srt.app, Srt.app] at hs
  obtain ⟨s1, s2, s3⟩ := hs
  rcases h5 with ⟨h5, m, hm, h6, h7⟩ | ⟨h5, h6⟩
  · left
    have hmem : m ∈ x.free := by rw [h1]; simp [hm]
    have a1 := hs0.mem m hmem
    refine ⟨h5, max m.at_ s.at_, ind_iff.2 (by omega), ?_⟩
    have b1 := cnt_pos (p := max m.at_ s.at_) hmem (ind_iff.2 (by omega))
    have b2 := cnt_le (max m.at_ s.at_) hs0
    omega
  · right
    -- what touches s: none, one ahead, one behind, or both
    have hcase : (M = [] ∧ join M s = s) ∨ (∃ m, M = [m] ∧ m.at_ + m.len = s.at_ ∧ join M s = ⟨m.at_, m.len + s.len⟩) ∨ (∃ m, M = [m] ∧ m.at_ = s.at_ + s.len ∧ join M s = ⟨s.at_, s.len + m.len⟩) ∨
        (∃ m k, M = [m, k] ∧ m.at_ + m.len = s.at_ ∧ k.at_ = s.at_ + s.len ∧ join M s = ⟨m.at_, m.len + s.len + k.len⟩) := by
      match M, s2, h5 with
      | [], _, _ => exact .inl ⟨rfl, rfl⟩
      | [m], ⟨c1, c2, _⟩, h5 =>
        rcases h5 m (by simp) with e | e
        · refine .inr (.inr (.inl ⟨m, rfl, e, ?_⟩))
          unfold join
          rw [if_neg (by simp)]
          simp [List.getD]
          omega
        · refine .inr (.inl ⟨m, rfl, e, ?_⟩)
          unfold join
          rw [if_neg (by simp)]
          simp [List.getD]
          omega
      | [m, k], ⟨c1, c2, c3, c4, _⟩, h5 =>
        have e1 := h5 m (by simp)
        have e2 := h5 k (by simp)
        refine .inr (.inr (.inr ⟨m, k, rfl, by omega, by omega, ?_⟩))
        unfold join
        rw [if_neg (by simp)]
        simp [List.getD]
        omega
      | m :: k :: j :: r, ⟨c1, c2, c3, c4, c5, c6, _⟩, h5 =>
        have e1 := h5 m (by simp)
        have e2 := h5 k (by simp)
        have e3 := h5 j (by simp)
        omega
    have hbB : ∀ lo, lo ≤ s.at_ + s.len → Srt (endOf (endOf (-1) A) M) B → (∀ b ∈ B, s.at_ + s.len < b.at_) → Srt lo B := by
      intro lo hlo h h'
      cases B with
      | nil => trivial
      | cons b B => exact ⟨by have := h' b (by simp); omega, h.2⟩
    have heA : endOf (-1) A < s.at_ := by
      have : ∀ (A : List Ext) (lo : Int), lo < s.at_ → (∀ a ∈ A, a.at_ + a.len < s.at_) → endOf lo A < s.at_ := by
        intro A
        induction A with
        | nil => intro lo h _; exact h
        | cons a A ih => intro lo h h'; exact ih _ (h' a (by simp)) (fun b hb => h' b (by simp [hb]))
      exact this A (-1) (by omega) h2
    have key : Srt (endOf (-1) A) (join M s :: B) ∧ (join M s).at_ + (join M s).len ≤ x.size ∧ (∀ p, ind (join M s) p = cnt M p + ind s p) := by
      have hvM : ∀ m ∈ M, m.at_ + m.len ≤ x.size := fun m hm => hv m (by rw [h1]; simp [hm])
      rcases hcase with ⟨rfl, e⟩ | ⟨m, rfl, e1, e⟩ | ⟨m, rfl, e1, e⟩ | ⟨m, k, rfl, e1, e2, e⟩
      · rw [e]
        exact ⟨⟨heA, f2, hbB _ (Int.le_refl _) s3 h4⟩, f3, fun p => by simp [cnt]⟩
      · rw [e]
        obtain ⟨c1, c2, _⟩ := s2
        refine ⟨⟨c1, by simp only; omega, hbB _ (by simp only; omega) s3 h4⟩, by simp only; omega, fun p => ?_⟩
        simp only [cnt_cons, cnt_nil]
        unfold ind; simp only; (repeat' split) <;> omega
      · rw [e]
        obtain ⟨c1, c2, _⟩ := s2
        have := hvM m (by simp)
        refine ⟨⟨heA, by simp only; omega, ?_⟩, by simp only; omega, fun p => ?_⟩
        · rw [show (⟨s.at_, s.len + m.len⟩ : Ext).at_ + (⟨s.at_, s.len + m.len⟩ : Ext).len = m.at_ + m.len by simp only; omega]
          exact s3
        · simp only [cnt_cons, cnt_nil]
          unfold ind; simp only; (repeat' split) <;> omega
      · rw [e]
        obtain ⟨c1, c2, c3, c4, _⟩ := s2
        have := hvM k (by simp)
        refine ⟨⟨c1, by simp only; omega, ?_⟩, by simp only; omega, fun p => ?_⟩
        · rw [show (⟨m.at_, m.len + s.len + k.len⟩ : Ext).at_ + (⟨m.at_, m.len + s.len + k.len⟩ : Ext).len = k.at_ + k.len by simp only; omega]
          exact s3
        · simp only [cnt_cons, cnt_nil]
          unfold ind; simp only; (repeat' split) <;> omega
    obtain ⟨k1, k2, k3⟩ := key
    refine ⟨_, h6, ⟨fun p hp => ?_, chk_iff.2 ⟨g0, g1, Srt.app.2 ⟨s1, k1⟩, fun b hb => ?_⟩, rfl, fun p => ?_, ?_⟩⟩
    · rcases Nat.eq_zero_or_pos (cnt x.free p) with h0 | h0
      · exact h0
      · obtain ⟨e, he, h8⟩ := cnt_mem h0
        have b1 := ind_iff.1 hp
        have b2 := ind_iff.1 h8
        rw [h1] at he
        rcases List.mem_append.1 he with he | he
        · have := h2 e he; omega
        · rcases List.mem_append.1 he with he | he
          · have := h5 e he; omega
          · have := h4 e he; omega
    · simp only at hb ⊢
      rcases List.mem_append.1 hb with hb | hb
      · exact hv b (by rw [h1]; simp [hb])
      · rcases List.mem_cons.1 hb with rfl | hb
        · exact k2
        · exact hv b (by rw [h1]; simp [hb])
    · rw [h1]
      simp only [cnt_app, cnt_cons]
      have := k3 p
      omega
    · rw [h1]
      simp only [List.length_append, List.length_cons]
      omega

/-- errors ahead -/
theorem take_bad {x : Exts} {n : Int} (h : chk x ≠ 0 ∨ n < 1) : takeX x n = (⟨0, 0⟩, ⟨0, []⟩, 1) := by unfold takeX; rw [if_pos h]
theorem chk_01 (x : Exts) : chk x = 0 ∨ chk x = 1 := by unfold chk; split; exact .inr rfl; split; exact .inl rfl; exact .inr rfl
theorem both_01 {x : Exts} {s : Ext} (h : ¬ (fitsB x.size s = true ∧ chk x = 0)) : bothE x s = 1 := by
  unfold bothE
  split
  · rename_i hf
    rcases chk_01 x with hc | hc
    · exact absurd ⟨hf, hc⟩ h
    · exact hc
  · rfl
theorem keep_bad {x : Exts} {s : Ext} (h : ¬ (fitsB x.size s = true ∧ chk x = 0)) : keepX x s = (⟨0, []⟩, 1) := by unfold keepX; rw [both_01 h, if_pos (by decide)]
theorem give_bad {x : Exts} {s : Ext} (h : ¬ (fitsB x.size s = true ∧ chk x = 0)) : giveX x s = (⟨0, []⟩, 1) := by unfold giveX; rw [both_01 h, if_pos (by decide)]

end Go.Proofs.Ytdannmfdenlikaa
