/-
  Extents, plainly: what is free behind a take, a keep, a give.
-/
import Derived.Test.YtdannmfdenlikaaExtSpec
namespace Go.Proofs.Ytdannmfdenlikaa
set_option linter.unusedSimpArgs false
set_option linter.unusedVariables false
set_option linter.unnecessarySimpa false
open Go Am

/-- whether a sector is of an extent -/
def ind (e : Ext) (p : Int) : Nat := if e.at_ ≤ p ∧ p < e.at_ + e.len then 1 else 0
/-- of how many extents a sector is -/
def cnt (l : List Ext) (p : Int) : Nat := (l.map (fun e => ind e p)).sum

theorem cnt_nil (p : Int) : cnt [] p = 0 := rfl
theorem cnt_cons (e : Ext) (l : List Ext) (p : Int) : cnt (e :: l) p = ind e p + cnt l p := by simp [cnt]
theorem cnt_app (a b : List Ext) (p : Int) : cnt (a ++ b) p = cnt a p + cnt b p := by simp [cnt]
theorem ind_le (e : Ext) (p : Int) : ind e p ≤ 1 := by unfold ind; split <;> omega
theorem ind_pos {e : Ext} {p : Int} (h1 : e.at_ ≤ p) (h2 : p < e.at_ + e.len) : ind e p = 1 := if_pos ⟨h1, h2⟩
theorem ind_zero {e : Ext} {p : Int} (h : ¬ (e.at_ ≤ p ∧ p < e.at_ + e.len)) : ind e p = 0 := if_neg h

/-- one behind the other, none touching, none empty -/
def Srt : Int → List Ext → Prop
  | _, [] => True
  | lo, e :: r => lo < e.at_ ∧ 1 ≤ e.len ∧ Srt (e.at_ + e.len) r

/-- where a row ends -/
def endOf : Int → List Ext → Int
  | lo, [] => lo
  | _, e :: r => endOf (e.at_ + e.len) r

theorem Srt.app : ∀ {a b : List Ext} {lo : Int}, Srt lo (a ++ b) ↔ Srt lo a ∧ Srt (endOf lo a) b
  | [], b, lo => by simp [Srt, endOf]
  | e :: a, b, lo => by simp only [List.cons_append, Srt, endOf, Srt.app]; constructor <;> (intro h; simp_all)

theorem Srt.le : ∀ {l : List Ext} {lo lo' : Int}, lo' ≤ lo → Srt lo l → Srt lo' l
  | [], _, _, _, _ => trivial
  | e :: l, lo, lo', h, ⟨h1, h2⟩ => ⟨by omega, h2⟩

theorem endOf_ge : ∀ {l : List Ext} {lo : Int}, Srt lo l → lo ≤ endOf lo l
  | [], _, _ => Int.le_refl _
  | e :: l, lo, ⟨h1, h2, h3⟩ => by have := endOf_ge h3; simp only [endOf]; omega

theorem Srt.mem : ∀ {l : List Ext} {lo : Int}, Srt lo l → ∀ e ∈ l, lo < e.at_ ∧ 1 ≤ e.len ∧ e.at_ + e.len ≤ endOf lo l
  | [], _, _, e, he => by cases he
  | x :: l, lo, ⟨h1, h2, h3⟩, e, he => by
    cases he with
    | head => exact ⟨h1, h2, endOf_ge h3⟩
    | tail _ he => have := Srt.mem h3 e he; simp only [endOf]; refine ⟨by omega, this.2.1, this.2.2⟩

/-- within: what ends not behind size -/
def Val (size : Int) (l : List Ext) : Prop := Srt (-1) l ∧ ∀ e ∈ l, e.at_ + e.len ≤ size

theorem W_in {n : Int} (h1 : -1000000 ≤ n) (h2 : n ≤ 1000000) : W n = n := wrap_i64 (by omega) (by omega)

theorem fits_iff {size : Int} {s : Ext} (h0 : 0 ≤ size) (h1 : size ≤ 8192) : fitsB size s = true ↔ 0 ≤ s.at_ ∧ 1 ≤ s.len ∧ s.at_ + s.len ≤ size := by
  unfold fitsB
  simp only [Bool.and_eq_true, decide_eq_true_eq]
  constructor
  · rintro ⟨a1, a2, a3, a4⟩
    rw [W_in (by omega) (by omega)] at a4
    omega
  · rintro ⟨a1, a2, a3⟩
    rw [W_in (by omega) (by omega)]
    omega

theorem okFree_iff {size : Int} (h0 : 0 ≤ size) (h1 : size ≤ 8192) : ∀ (l : List Ext) (last : Int), okFree size last l = true ↔ Srt last l ∧ ∀ e ∈ l, 0 ≤ e.at_ ∧ e.at_ + e.len ≤ size
  | [], last => by simp [okFree, Srt]
  | e :: l, last => by
    simp only [okFree, Bool.and_eq_true, decide_eq_true_eq, Srt]
    constructor
    · rintro ⟨a1, a2, a3⟩
      obtain ⟨b1, b2, b3⟩ := (fits_iff h0 h1).1 a1
      have hW : endW e = e.at_ + e.len := W_in (by omega) (by omega)
      rw [hW, okFree_iff h0 h1 l] at a3
      exact ⟨⟨a2, b2, a3.1⟩, fun x hx => by
        rcases List.mem_cons.1 hx with rfl | hx
        · exact ⟨b1, b3⟩
        · exact a3.2 x hx⟩
    · rintro ⟨⟨a1, a2, a3⟩, a4⟩
      have b := a4 e (by simp)
      have hW : endW e = e.at_ + e.len := W_in (by omega) (by omega)
      rw [hW, okFree_iff h0 h1 l]
      exact ⟨(fits_iff h0 h1).2 ⟨b.1, a2, b.2⟩, a1, a3, fun x hx => a4 x (by simp [hx])⟩

theorem chk_iff {x : Exts} : chk x = 0 ↔ 0 ≤ x.size ∧ x.size ≤ 8192 ∧ Val x.size x.free := by
  unfold chk
  split
  · rename_i h
    constructor
    · intro h; cases h
    · intro h; omega
  · rename_i h
    have h0 : 0 ≤ x.size := by omega
    have h1 : x.size ≤ 8192 := by omega
    have key := okFree_iff h0 h1 x.free (-1)
    constructor
    · intro h2
      split at h2
      · rename_i h3
        have := key.1 h3
        exact ⟨h0, h1, this.1, fun e he => (this.2 e he).2⟩
      · cases h2
    · rintro ⟨_, _, h2, h3⟩
      rw [if_pos (key.2 ⟨h2, fun e he => ⟨by have := (h2.mem e he).1; omega, h3 e he⟩⟩)]

theorem idxFrom_first {α : Type} (f : α → Bool) : ∀ (l : List α) (k : Nat), (idxFrom f k l = -1 ∧ ∀ x ∈ l, f x = false) ∨ ∃ A x B, l = A ++ x :: B ∧ f x = true ∧ (∀ y ∈ A, f y = false) ∧ idxFrom f k l = ((k + A.length : Nat) : Int)
  | [], _ => .inl ⟨rfl, by simp⟩
  | x :: l, k => by
    unfold idxFrom
    by_cases hx : f x = true
    · rw [if_pos hx]
      exact .inr ⟨[], x, l, rfl, hx, by simp, by simp⟩
    · rw [if_neg hx]
      rcases idxFrom_first f l (k + 1) with ⟨h1, h2⟩ | ⟨A, y, B, rfl, h2, h3, h4⟩
      · exact .inl ⟨h1, fun z hz => by
          rcases List.mem_cons.1 hz with rfl | hz
          · simpa using hx
          · exact h2 z hz⟩
      · exact .inr ⟨x :: A, y, B, rfl, h2, fun z hz => by
          rcases List.mem_cons.1 hz with rfl | hz
          · simpa using hx
          · exact h3 z hz, by rw [h4]; simp; omega⟩

theorem take_cases {x : Exts} {n : Int} (hc : chk x = 0) (hn : 1 ≤ n) (hn2 : n ≤ 9223372036854775807) :
    (takeX x n = (⟨0, 0⟩, ⟨0, []⟩, 6) ∧ ∀ e ∈ x.free, e.len < n) ∨
    ∃ A e B, x.free = A ++ e :: B ∧ n ≤ e.len ∧ (∀ a ∈ A, a.len < n) ∧ takeX x n = (⟨e.at_, n⟩, ⟨x.size, A ++ (if e.len = n then B else ⟨e.at_ + n, e.len - n⟩ :: B)⟩, 0) := by
  obtain ⟨h0, h1, hs, hv⟩ := chk_iff.1 hc
  have hbad : ¬ (chk x ≠ 0 ∨ n < 1) := by rw [hc]; simp; omega
  rcases idxFrom_first (fun s : Ext => decide (n ≤ s.len)) x.free 0 with ⟨g1, g2⟩ | ⟨A, e, B, g1, g2, g3, g4⟩
  · left
    refine ⟨?_, fun e he => by have := g2 e he; simp at this; omega⟩
    unfold takeX
    rw [if_neg hbad, if_pos (by rw [g1]; decide)]
  · right
    have g2' : n ≤ e.len := by simpa using g2
    have hem : e ∈ x.free := by rw [g1]; simp
    have he1 := hs.mem e hem
    have he2 := hv e hem
    refine ⟨A, e, B, g1, g2', fun a ha => by have := g3 a ha; simp at this; omega, ?_⟩
    unfold takeX
    rw [if_neg hbad, if_neg (by rw [g4]; omega), g4]
    simp only [Nat.zero_add, Int.toNat_natCast]
    have hg : x.free.getD A.length ⟨0, 0⟩ = e := by rw [g1]; simp [List.getD]
    rw [hg, W_in (n := e.len - n) (by omega) (by omega), W_in (n := e.at_ + n) (by omega) (by omega)]
    by_cases hz : e.len = n
    · rw [if_pos (by omega), if_pos hz, g1]
      simp
    · rw [if_neg (by omega), if_neg hz, g1]
      simp

/-- of f what is left, without s -/
def rest (f s : Ext) : List Ext := (if f.at_ < s.at_ then [⟨f.at_, s.at_ - f.at_⟩] else []) ++ (if s.at_ + s.len < f.at_ + f.len then [⟨s.at_ + s.len, f.at_ + f.len - (s.at_ + s.len)⟩] else [])

theorem keep_cases {x : Exts} {s : Ext} (hc : chk x = 0) (hf : fitsB x.size s = true) :
    (keepX x s = (⟨0, []⟩, 4) ∧ ∀ f ∈ x.free, ¬ (f.at_ ≤ s.at_ ∧ s.at_ + s.len ≤ f.at_ + f.len)) ∨
    ∃ A f B, x.free = A ++ f :: B ∧ f.at_ ≤ s.at_ ∧ s.at_ + s.len ≤ f.at_ + f.len ∧ keepX x s = (⟨x.size, A ++ (rest f s ++ B)⟩, 0) := by
  obtain ⟨h0, h1, hs, hv⟩ := chk_iff.1 hc
  obtain ⟨f1, f2, f3⟩ := (fits_iff h0 h1).1 hf
  have hb : bothE x s = 0 := by unfold bothE; rw [if_pos hf, hc]
  have hsW : endW s = s.at_ + s.len := W_in (by omega) (by omega)
  have hfW : ∀ f ∈ x.free, endW f = f.at_ + f.len := fun f hf => by
    have a1 := hs.mem f hf
    have a2 := hv f hf
    exact W_in (by omega) (by omega)
  rcases idxFrom_first (fun f : Ext => decide (f.at_ ≤ s.at_) && decide (endW s ≤ endW f)) x.free 0 with ⟨g1, g2⟩ | ⟨A, f, B, g1, g2, g3, g4⟩
  · left
    refine ⟨?_, fun f hf => ?_⟩
    · unfold keepX
      rw [if_neg (by rw [hb]; simp), if_pos (by rw [g1]; decide)]
    · have := g2 f hf
      rw [hsW, hfW f hf] at this
      simp at this
      omega
  · right
    have hfm : f ∈ x.free := by rw [g1]; simp
    have a1 := hs.mem f hfm
    have a2 := hv f hfm
    rw [hsW, hfW f hfm] at g2
    simp at g2
    refine ⟨A, f, B, g1, g2.1, g2.2, ?_⟩
    unfold keepX
    rw [if_neg (by rw [hb]; simp), if_neg (by rw [g4]; omega), g4]
    simp only [Nat.zero_add, Int.toNat_natCast]
    have hg : x.free.getD A.length ⟨0, 0⟩ = f := by rw [g1]; simp [List.getD]
    have hr : restOf f s = rest f s := by
      unfold restOf rest
      rw [hsW, hfW f hfm, W_in (n := s.at_ - f.at_) (by omega) (by omega), W_in (n := f.at_ + f.len - (s.at_ + s.len)) (by omega) (by omega)]
      by_cases c1 : f.at_ < s.at_ <;> by_cases c2 : s.at_ + s.len < f.at_ + f.len <;> simp [List.filter, c1, c2, show (0 < s.at_ - f.at_) ↔ f.at_ < s.at_ by omega, show (0 < f.at_ + f.len - (s.at_ + s.len)) ↔ s.at_ + s.len < f.at_ + f.len by omega]
    rw [hg, hr, g1]
    simp

/-- s, and what touches it -/
def join (M : List Ext) (s : Ext) : Ext := if M = [] then s else ⟨min s.at_ (M.getD 0 ⟨0, 0⟩).at_, max (s.at_ + s.len) ((M.getD (M.length - 1) ⟨0, 0⟩).at_ + (M.getD (M.length - 1) ⟨0, 0⟩).len) - min s.at_ (M.getD 0 ⟨0, 0⟩).at_⟩

theorem give_cases {x : Exts} {s : Ext} (hc : chk x = 0) (hf : fitsB x.size s = true) :
    ∃ A M B, x.free = A ++ (M ++ B) ∧ (∀ a ∈ A, a.at_ + a.len < s.at_) ∧ (∀ m ∈ M, s.at_ ≤ m.at_ + m.len ∧ m.at_ ≤ s.at_ + s.len) ∧ (∀ b ∈ B, s.at_ + s.len < b.at_) ∧
      ((giveX x s = (⟨0, []⟩, 5) ∧ ∃ m ∈ M, m.at_ < s.at_ + s.len ∧ s.at_ < m.at_ + m.len) ∨
       ((∀ m ∈ M, m.at_ = s.at_ + s.len ∨ m.at_ + m.len = s.at_) ∧ giveX x s = (⟨x.size, A ++ (join M s :: B)⟩, 0))) := by
  obtain ⟨h0, h1, hs, hv⟩ := chk_iff.1 hc
  obtain ⟨f1, f2, f3⟩ := (fits_iff h0 h1).1 hf
  have hb : bothE x s = 0 := by unfold bothE; rw [if_pos hf, hc]
  have hsW : endW s = s.at_ + s.len := W_in (by omega) (by omega)
  have hfW : ∀ f ∈ x.free, endW f = f.at_ + f.len := fun f hf => by
    have a1 := hs.mem f hf
    have a2 := hv f hf
    exact W_in (by omega) (by omega)
  -- where the search stops
  have hfrom : ∃ A R, x.free = A ++ R ∧ fromX x.free s = A.length ∧ (∀ a ∈ A, a.at_ + a.len < s.at_) ∧ (∀ m ∈ R, s.at_ ≤ m.at_ + m.len) := by
    rcases idxFrom_first (fun f : Ext => decide (s.at_ ≤ endW f)) x.free 0 with ⟨g1, g2⟩ | ⟨A, f, B, g1, g2, g3, g4⟩
    · refine ⟨x.free, [], by simp, ?_, fun a ha => ?_, by simp⟩
      · unfold fromX; rw [if_pos (by rw [g1]; decide)]
      · have := g2 a ha
        rw [hfW a ha] at this
        simp at this
        omega
    · have hm : f ∈ x.free := by rw [g1]; simp
      rw [hfW f hm] at g2
      simp at g2
      refine ⟨A, f :: B, g1, ?_, fun a ha => ?_, fun m hm' => ?_⟩
      · unfold fromX; rw [if_neg (by rw [g4]; omega), g4]; simp
      · have := g3 a ha
        rw [hfW a (by rw [g1]; simp [ha])] at this
        simp at this
        omega
      · rcases List.mem_cons.1 hm' with rfl | hm'
        · exact g2
        · rw [g1, Srt.app] at hs
          obtain ⟨_, _, _, h3⟩ := hs
          have := h3.mem m hm'
          omega
  obtain ⟨A, R, hAR, hfr, hA, hR⟩ := hfrom
  have hdrop : x.free.drop (fromX x.free s) = R := by rw [hfr, hAR]; simp
  have htake : x.free.take (fromX x.free s) = A := by rw [hfr, hAR]; simp
  -- how far it goes
  have hspan : ∃ B, R = midX x.free s ++ B ∧ (∀ m ∈ midX x.free s, m.at_ ≤ s.at_ + s.len) ∧ (∀ b ∈ B, s.at_ + s.len < b.at_) := by
    unfold midX
    rw [hdrop, hsW]
    have hsr : ∃ lo, Srt lo R := by rw [hAR, Srt.app] at hs; exact ⟨_, hs.2⟩
    obtain ⟨lo, hsr⟩ := hsr
    clear hdrop hAR hR
    induction R generalizing lo with
    | nil => exact ⟨[], by simp, by simp, by simp⟩
    | cons r R ih =>
      obtain ⟨s1, s2, s3⟩ := hsr
      by_cases hle : r.at_ ≤ s.at_ + s.len
      · obtain ⟨B, e1, e2, e3⟩ := ih _ s3
        rw [List.takeWhile_cons, if_pos (by simpa using hle)]
        exact ⟨B, by rw [List.cons_append, ← e1], fun m hm => by
          rcases List.mem_cons.1 hm with rfl | hm
          · exact hle
          · exact e2 m hm, e3⟩
      · rw [List.takeWhile_cons, if_neg (by simpa using hle)]
        refine ⟨r :: R, by simp, by simp, fun b hb => ?_⟩
        rcases List.mem_cons.1 hb with rfl | hb
        · omega
        · have := s3.mem b hb; omega
  obtain ⟨B, hRB, hM, hB⟩ := hspan
  have hdrop2 : x.free.drop (fromX x.free s + (midX x.free s).length) = B := by
    rw [← List.drop_drop, hdrop]
    conv => lhs; rw [hRB]
    simp
  generalize hMM : midX x.free s = M at *
  have hmem : ∀ m ∈ M, m ∈ x.free := fun m hm => by rw [hAR, hRB]; simp [hm]
  refine ⟨A, M, B, by rw [hAR, hRB], hA, fun m hm => ⟨hR m (by rw [hRB]; simp [hm]), hM m hm⟩, hB, ?_⟩
  by_cases hany : M.any (hitX s) = true
  · left
    refine ⟨?_, ?_⟩
    · unfold giveX
      rw [if_neg (by rw [hb]; simp), hMM, if_pos hany]
    · obtain ⟨m, hm, hh⟩ := List.any_eq_true.1 hany
      unfold hitX at hh
      rw [hsW, hfW m (hmem m hm)] at hh
      simp at hh
      exact ⟨m, hm, hh⟩
  · right
    have hno : ∀ m ∈ M, m.at_ = s.at_ + s.len ∨ m.at_ + m.len = s.at_ := fun m hm => by
      have h2 : ¬ hitX s m = true := fun h => hany (List.any_eq_true.2 ⟨m, hm, h⟩)
      unfold hitX at h2
      rw [hsW, hfW m (hmem m hm)] at h2
      simp at h2
      have a1 := hR m (by rw [hRB]; simp [hm])
      have a2 := hM m hm
      omega
    refine ⟨hno, ?_⟩
    unfold giveX
    rw [if_neg (by rw [hb]; simp), hMM, if_neg hany, htake, hdrop2]
    have hj : joinX M s = join M s := by
      unfold joinX join
      by_cases hMn : M = []
      · rw [if_pos hMn, if_pos hMn]
      · have hl : 0 < M.length := List.length_pos_iff.2 hMn
        have m0 : M.getD 0 ⟨0, 0⟩ ∈ M := by simp [List.getD, hl]
        have m1 : M.getD (M.length - 1) ⟨0, 0⟩ ∈ M := by
          simp only [List.getD]
          rw [List.getElem?_eq_getElem (by omega)]
          exact List.getElem_mem _
        rw [if_neg hMn, if_neg hMn, hsW, hfW _ (hmem _ m1)]
        have a1 := hs.mem _ (hmem _ m0)
        have a2 := hv _ (hmem _ m0)
        have a3 := hs.mem _ (hmem _ m1)
        have a4 := hv _ (hmem _ m1)
        rw [W_in (by omega) (by omega)]
    rw [hj]

end Go.Proofs.Ytdannmfdenlikaa
