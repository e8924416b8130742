/-
  Extents, plainly: when a keep, and a give, goes; orders; there and back; how much room is.
-/
import Derived.Test.YtdannmfdenlikaaExtPure2
namespace Go.Proofs.Ytdannmfdenlikaa
set_option linter.unusedSimpArgs false
set_option linter.unusedVariables false
set_option linter.unnecessarySimpa false
open Go Am

/-- what is free all along lies in one extent -/
theorem srt_run : ∀ {l : List Ext} {lo u v : Int}, Srt lo l → u < v → (∀ p, u ≤ p → p < v → 1 ≤ cnt l p) → ∃ f ∈ l, f.at_ ≤ u ∧ v ≤ f.at_ + f.len
  | [], _, u, _, _, huv, h => by have := h u (Int.le_refl _) huv; simp [cnt] at this
  | e :: l, lo, u, v, ⟨h1, h2, h3⟩, huv, h => by
    by_cases hu : u < e.at_ + e.len
    · have hue := h u (Int.le_refl _) huv
      rw [cnt_cons, cnt_low h3 (by omega)] at hue
      have hin : ind e u = 1 := by have := ind_le e u; omega
      have := ind_iff.1 hin
      refine ⟨e, by simp, this.1, ?_⟩
      rcases Int.lt_or_le (e.at_ + e.len) v with hv | hv
      · have := h (e.at_ + e.len) (by omega) hv
        rw [cnt_cons, cnt_low h3 (Int.le_refl _), ind_zero (by omega)] at this
        omega
      · exact hv
    · obtain ⟨f, hf, f1, f2⟩ := srt_run h3 huv (fun p p1 p2 => by
        have := h p p1 p2
        rw [cnt_cons, ind_zero (by omega)] at this
        omega)
      exact ⟨f, by simp [hf], f1, f2⟩

def inAll (x : Exts) (s : Ext) : Prop := ∀ p, ind s p = 1 → cnt x.free p = 1

theorem cnt1 {x : Exts} (hc : chk x = 0) (p : Int) : cnt x.free p ≤ 1 := cnt_le p (chk_iff.1 hc).2.2.1

theorem keep_iff {x : Exts} {s : Ext} (hc : chk x = 0) (hf : fitsB x.size s = true) :
    (inAll x s ∧ ∃ y, keepX x s = (y, 0) ∧ KeepOK x s y) ∨ (¬ inAll x s ∧ keepX x s = (⟨0, []⟩, 4)) := by
  obtain ⟨h0, h1, hs, hv⟩ := chk_iff.1 hc
  obtain ⟨f1, f2, f3⟩ := (fits_iff h0 h1).1 hf
  rcases keep_law hc hf with ⟨g1, g2⟩ | ⟨y, g1, g2⟩
  · right
    refine ⟨fun hin => ?_, g1⟩
    obtain ⟨f, hf, k1, k2⟩ := srt_run (u := s.at_) (v := s.at_ + s.len) hs (by omega) (fun p p1 p2 => by rw [hin p (ind_iff.2 ⟨p1, p2⟩)]; exact Nat.le_refl _)
    exact g2 f hf ⟨k1, k2⟩
  · left
    refine ⟨fun p hp => ?_, y, g1, g2⟩
    obtain ⟨f, hf, k1, k2⟩ := g2.all
    have b1 := ind_iff.1 hp
    have b2 := cnt_pos (p := p) hf (ind_iff.2 (by omega))
    have b3 := cnt1 hc p
    omega

def inNone (x : Exts) (s : Ext) : Prop := ∀ p, ind s p = 1 → cnt x.free p = 0

theorem give_iff {x : Exts} {s : Ext} (hc : chk x = 0) (hf : fitsB x.size s = true) :
    (inNone x s ∧ ∃ y, giveX x s = (y, 0) ∧ GiveOK x s y) ∨ (¬ inNone x s ∧ giveX x s = (⟨0, []⟩, 5)) := by
  rcases give_law hc hf with ⟨g1, p, p1, p2⟩ | ⟨y, g1, g2⟩
  · exact .inr ⟨fun hn => by (rw [hn p p1] at p2; cases p2), g1⟩
  · exact .inl ⟨g2.none, y, g1, g2⟩

theorem give_zero {x : Exts} {s : Ext} (h : (giveX x s).2 = 0) : chk x = 0 ∧ fitsB x.size s = true ∧ inNone x s ∧ GiveOK x s (giveX x s).1 := by
  by_cases hg : fitsB x.size s = true ∧ chk x = 0
  · obtain ⟨hf, hc⟩ := hg
    rcases give_iff hc hf with ⟨h1, y, h2, h3⟩ | ⟨_, h2⟩
    · exact ⟨hc, hf, h1, by rw [h2]; exact h3⟩
    · rw [h2] at h; exact absurd h (by decide)
  · rw [give_bad hg] at h; exact absurd h (by decide)

theorem keep_zero {x : Exts} {s : Ext} (h : (keepX x s).2 = 0) : chk x = 0 ∧ fitsB x.size s = true ∧ inAll x s ∧ KeepOK x s (keepX x s).1 := by
  by_cases hg : fitsB x.size s = true ∧ chk x = 0
  · obtain ⟨hf, hc⟩ := hg
    rcases keep_iff hc hf with ⟨h1, y, h2, h3⟩ | ⟨_, h2⟩
    · exact ⟨hc, hf, h1, by rw [h2]; exact h3⟩
    · rw [h2] at h; exact absurd h (by decide)
  · rw [keep_bad hg] at h; exact absurd h (by decide)

theorem take_zero {x : Exts} {n : Int} (hn : n ≤ 9223372036854775807) (h : (takeX x n).2.2 = 0) : chk x = 0 ∧ 1 ≤ n ∧ TakeOK x n (takeX x n).1 (takeX x n).2.1 := by
  by_cases hg : chk x ≠ 0 ∨ n < 1
  · rw [take_bad hg] at h; exact absurd h (by decide)
  · have hc : chk x = 0 := by rcases Decidable.em (chk x = 0) with h | h; exact h; exact absurd (.inl h) hg
    have hn1 : 1 ≤ n := by have : ¬ n < 1 := fun h => hg (.inr h); omega
    rcases take_law hc hn1 hn with ⟨h1, _⟩ | ⟨s, y, h1, h2⟩
    · rw [h1] at h; exact absurd h (by decide)
    · exact ⟨hc, hn1, by rw [h1]; exact h2⟩

/-! ### ExtentOrder -/
theorem order_give {x : Exts} {a b : Ext} (ha : (giveX x a).2 = 0) (hb : (giveX x b).2 = 0) :
    (giveX (giveX x a).1 b).2 = (giveX (giveX x b).1 a).2 ∧ (giveX (giveX x a).1 b).1 = (giveX (giveX x b).1 a).1 ∧
      (((giveX (giveX x a).1 b).2 = 0) ↔ (a.at_ + a.len ≤ b.at_ ∨ b.at_ + b.len ≤ a.at_)) ∧ a.at_ + a.len ≤ 8192 ∧ 0 ≤ a.at_ ∧ 0 ≤ a.len ∧ b.at_ + b.len ≤ 8192 ∧ 0 ≤ b.at_ ∧ 0 ≤ b.len := by
  obtain ⟨hc, fa, na, ga⟩ := give_zero ha
  obtain ⟨_, fb, nb, gb⟩ := give_zero hb
  obtain ⟨h0, h1, _⟩ := chk_iff.1 hc
  obtain ⟨a1, a2, a3⟩ := (fits_iff h0 h1).1 fa
  obtain ⟨b1, b2, b3⟩ := (fits_iff h0 h1).1 fb
  generalize (giveX x a).1 = p at ga ⊢
  generalize (giveX x b).1 = q at gb ⊢
  have hpb : inNone p b ↔ (a.at_ + a.len ≤ b.at_ ∨ b.at_ + b.len ≤ a.at_) := by
    constructor
    · intro h
      rcases Int.lt_or_le b.at_ (a.at_ + a.len) with h2 | h2
      · rcases Int.lt_or_le a.at_ (b.at_ + b.len) with h3 | h3
        · have i1 : ind b (max a.at_ b.at_) = 1 := ind_iff.2 (by omega)
          have i2 : ind a (max a.at_ b.at_) = 1 := ind_iff.2 (by omega)
          have := h _ i1
          have := ga.cnt (max a.at_ b.at_)
          omega
        · exact .inr h3
      · exact .inl h2
    · intro h pt hpt
      have := ga.cnt pt
      have := nb pt hpt
      have := ind_iff.1 hpt
      have : ind a pt = 0 := ind_zero (by omega)
      omega
  have hqa : inNone q a ↔ (a.at_ + a.len ≤ b.at_ ∨ b.at_ + b.len ≤ a.at_) := by
    constructor
    · intro h
      rcases Int.lt_or_le b.at_ (a.at_ + a.len) with h2 | h2
      · rcases Int.lt_or_le a.at_ (b.at_ + b.len) with h3 | h3
        · have i1 : ind b (max a.at_ b.at_) = 1 := ind_iff.2 (by omega)
          have i2 : ind a (max a.at_ b.at_) = 1 := ind_iff.2 (by omega)
          have := h _ i2
          have := gb.cnt (max a.at_ b.at_)
          omega
        · exact .inr h3
      · exact .inl h2
    · intro h pt hpt
      have := gb.cnt pt
      have := na pt hpt
      have := ind_iff.1 hpt
      have : ind b pt = 0 := ind_zero (by omega)
      omega
  rcases give_iff ga.chk (by rw [ga.size]; exact fb) with ⟨n1, s, e1, g1⟩ | ⟨n1, e1⟩
  · rcases give_iff gb.chk (by rw [gb.size]; exact fa) with ⟨n2, t, e2, g2⟩ | ⟨n2, e2⟩
    · rw [e1, e2]
      refine ⟨rfl, chk_inj g1.chk g2.chk (by rw [g1.size, g2.size, ga.size, gb.size]) (fun pt => ?_), ⟨fun _ => hpb.1 n1, fun _ => rfl⟩, by omega, a1, by omega, by omega, b1, by omega⟩
      show cnt s.free pt = cnt t.free pt
      have := g1.cnt pt
      have := g2.cnt pt
      have := ga.cnt pt
      have := gb.cnt pt
      omega
    · exact absurd (hqa.2 (hpb.1 n1)) n2
  · rcases give_iff gb.chk (by rw [gb.size]; exact fa) with ⟨n2, t, e2, g2⟩ | ⟨n2, e2⟩
    · exact absurd (hpb.2 (hqa.1 n2)) n1
    · rw [e1, e2]
      refine ⟨rfl, rfl, ⟨fun h => absurd h (by decide), fun h => absurd (hpb.2 h) n1⟩, by omega, a1, by omega, by omega, b1, by omega⟩

theorem order_keep {x : Exts} {a b : Ext} (ha : (keepX x a).2 = 0) (hb : (keepX x b).2 = 0) :
    (keepX (keepX x a).1 b).2 = (keepX (keepX x b).1 a).2 ∧ (keepX (keepX x a).1 b).1 = (keepX (keepX x b).1 a).1 ∧ ((keepX (keepX x a).1 b).2 = 0 ∨ (keepX (keepX x a).1 b).2 = 4) := by
  obtain ⟨hc, fa, na, ga⟩ := keep_zero ha
  obtain ⟨_, fb, nb, gb⟩ := keep_zero hb
  generalize (keepX x a).1 = p at ga ⊢
  generalize (keepX x b).1 = q at gb ⊢
  have hpq : inAll p b ↔ inAll q a := by
    constructor
    · intro h pt hpt
      have h1 := na pt hpt
      have h2 := gb.cnt pt
      have h3 := ga.cnt pt
      have h4 := ind_le b pt
      by_cases hb1 : ind b pt = 1
      · have := h pt hb1; omega
      · omega
    · intro h pt hpt
      have h1 := nb pt hpt
      have h2 := gb.cnt pt
      have h3 := ga.cnt pt
      have h4 := ind_le a pt
      by_cases hb1 : ind a pt = 1
      · have := h pt hb1; omega
      · omega
  rcases keep_iff ga.chk (by rw [ga.size]; exact fb) with ⟨n1, s, e1, g1⟩ | ⟨n1, e1⟩
  · rcases keep_iff gb.chk (by rw [gb.size]; exact fa) with ⟨n2, t, e2, g2⟩ | ⟨n2, e2⟩
    · rw [e1, e2]
      refine ⟨rfl, chk_inj g1.chk g2.chk (by rw [g1.size, g2.size, ga.size, gb.size]) (fun pt => ?_), .inl rfl⟩
      show cnt s.free pt = cnt t.free pt
      have := g1.cnt pt
      have := g2.cnt pt
      have := ga.cnt pt
      have := gb.cnt pt
      omega
    · exact absurd (hpq.1 n1) n2
  · rcases keep_iff gb.chk (by rw [gb.size]; exact fa) with ⟨n2, t, e2, g2⟩ | ⟨n2, e2⟩
    · exact absurd (hpq.2 n2) n1
    · rw [e1, e2]
      exact ⟨rfl, rfl, .inr rfl⟩

/-! ### room -/
theorem lens_le : ∀ {l : List Ext} {lo size : Int}, Srt lo l → (∀ e ∈ l, e.at_ + e.len ≤ size) → lo ≤ size → 0 ≤ lens l ∧ lens l ≤ size - lo
  | [], _, _, _, _, h => by simp [lens]; omega
  | e :: l, lo, size, ⟨h1, h2, h3⟩, hv, _ => by
    have he := hv e (by simp)
    have := lens_le h3 (fun x hx => hv x (by simp [hx])) he
    rw [lens_cons]
    omega

theorem fold_lens : ∀ (l : List Ext) (acc : Int), (∀ e ∈ l, 0 ≤ e.len) → 0 ≤ acc → acc + lens l ≤ 1000000 → l.foldl (fun n s => W (n + s.len)) acc = acc + lens l
  | [], acc, _, _, _ => by simp [lens]
  | e :: l, acc, h, h0, h1 => by
    rw [lens_cons] at h1 ⊢
    have he := h e (by simp)
    have hl : 0 ≤ lens l := by
      have : ∀ l : List Ext, (∀ e ∈ l, 0 ≤ e.len) → 0 ≤ lens l := by
        intro l
        induction l with
        | nil => intro _; simp [lens]
        | cons x l ih => intro h; rw [lens_cons]; have := h x (by simp); have := ih (fun y hy => h y (by simp [hy])); omega
      exact this l (fun x hx => h x (by simp [hx]))
    rw [List.foldl_cons, W_in (by omega) (by omega), fold_lens l (acc + e.len) (fun x hx => h x (by simp [hx])) (by omega) (by omega)]
    omega

theorem room_eq {x : Exts} (hc : chk x = 0) : roomX x = (lens x.free, 0) := by
  obtain ⟨h0, h1, hs, hv⟩ := chk_iff.1 hc
  have := lens_le hs hv (by omega)
  unfold roomX
  rw [if_neg (by rw [hc]; simp), fold_lens x.free 0 (fun e he => by have := hs.mem e he; omega) (Int.le_refl _) (by omega)]
  simp

/-! ### ExtentBack -/
theorem back_take {x : Exts} {n : Int} (hn : n ≤ 9223372036854775807) (h : (takeX x n).2.2 = 0) :
    giveX (takeX x n).2.1 (takeX x n).1 = (x, 0) ∧ roomX x = (lens x.free, 0) ∧ roomX (takeX x n).2.1 = (lens (takeX x n).2.1.free, 0) ∧ lens x.free = lens (takeX x n).2.1.free + n ∧
      (keepX (takeX x n).2.1 (takeX x n).1).2 = 4 ∧ keepX x (takeX x n).1 = ((takeX x n).2.1, 0) ∧ (takeX x n).1.len = n ∧ 0 ≤ lens (takeX x n).2.1.free ∧ lens x.free ≤ 100000 ∧ 0 ≤ lens x.free := by
  obtain ⟨hc, hn1, ht⟩ := take_zero hn h
  generalize (takeX x n).1 = a at ht ⊢
  generalize (takeX x n).2.1 = y at ht ⊢
  obtain ⟨h0, h1, hs, hv⟩ := chk_iff.1 hc
  have hfa : fitsB x.size a = true := (fits_iff h0 h1).2 ⟨ht.at0, by rw [ht.len]; exact hn1, by rw [ht.len]; exact ht.end_⟩
  have hfy : fitsB y.size a = true := by rw [ht.size]; exact hfa
  have hin : inAll x a := fun p hp => by have := ht.cnt p; have := cnt1 hc p; omega
  have hno : inNone y a := fun p hp => by have := ht.cnt p; have := cnt1 hc p; omega
  have hl := lens_le hs hv (by omega)
  obtain ⟨_, _, hs', hv'⟩ := chk_iff.1 ht.chk
  have hl' := lens_le hs' hv' (by rw [ht.size]; omega)
  refine ⟨?_, room_eq hc, room_eq ht.chk, ht.lens.symm, ?_, ?_, ht.len, hl'.1, by omega, hl.1⟩
  · rcases give_iff ht.chk hfy with ⟨_, z, e1, g1⟩ | ⟨n1, _⟩
    · rw [e1, chk_inj g1.chk hc (by rw [g1.size, ht.size]) (fun p => by have := g1.cnt p; have := ht.cnt p; omega)]
    · exact absurd hno n1
  · rcases keep_iff ht.chk hfy with ⟨n1, _⟩ | ⟨_, e1⟩
    · have i1 : ind a a.at_ = 1 := ind_iff.2 ⟨Int.le_refl _, by rw [ht.len]; omega⟩
      have := n1 _ i1
      have := hno _ i1
      omega
    · rw [e1]
  · rcases keep_iff hc hfa with ⟨_, k, e1, g1⟩ | ⟨n1, _⟩
    · rw [e1, chk_inj g1.chk ht.chk (by rw [g1.size, ht.size]) (fun p => by have := g1.cnt p; have := ht.cnt p; omega)]
    · exact absurd hin n1

theorem back_keep {x : Exts} {s : Ext} (h : (keepX x s).2 = 0) : giveX (keepX x s).1 s = (x, 0) ∧ (giveX x s).2 = 5 ∧ chk (keepX x s).1 = 0 := by
  obtain ⟨hc, hf, hin, hk⟩ := keep_zero h
  generalize (keepX x s).1 = y at hk ⊢
  obtain ⟨h0, h1, hs, hv⟩ := chk_iff.1 hc
  obtain ⟨f1, f2, f3⟩ := (fits_iff h0 h1).1 hf
  have hno : inNone y s := fun p hp => by have := hk.cnt p; have := cnt1 hc p; omega
  refine ⟨?_, ?_, hk.chk⟩
  · rcases give_iff hk.chk (by rw [hk.size]; exact hf) with ⟨_, z, e1, g1⟩ | ⟨n1, _⟩
    · rw [e1, chk_inj g1.chk hc (by rw [g1.size, hk.size]) (fun p => by have := g1.cnt p; have := hk.cnt p; omega)]
    · exact absurd hno n1
  · rcases give_iff hc hf with ⟨n1, _⟩ | ⟨_, e1⟩
    · have i1 : ind s s.at_ = 1 := ind_iff.2 ⟨Int.le_refl _, by omega⟩
      have := n1 _ i1
      have := hin _ i1
      omega
    · rw [e1]

end Go.Proofs.Ytdannmfdenlikaa
