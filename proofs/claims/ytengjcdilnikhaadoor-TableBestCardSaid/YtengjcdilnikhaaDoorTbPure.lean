/-
  Tables: plain laws.
-/
import Derived.Test.YtengjcdilnikhaaDoorNmPure
namespace Go.Proofs.YtengjcdilnikhaaDoor
set_option linter.unusedSimpArgs false
set_option linter.unusedVariables false
set_option linter.unnecessarySimpa false
open Go Am

/-- a file -/
structure Fl where
  name : S
  rank : Nat
  sum : Int
  blk : Int
  frm : Int
  len : Int

abbrev cK (a b : S) : Int := cmpP (parts a) (parts b)
theorem cK_eq {a b : S} : cK a b = 0 ↔ a = b := by
  rw [cmpP_tot.eq0]; exact ⟨parts_inj, fun e => by rw [e]⟩
theorem cK_anti (a b : S) : cK b a = - cK a b := cmpP_tot.anti _ _
theorem cK_tr {a b c : S} (h1 : cK a b < 0) (h2 : cK b c < 0) : cK a c < 0 := cmpP_tot.tr _ _ _ h1 h2

def mayF (f : Fl) : Bool := decide (0 ≤ f.blk) && (decide (f.blk ≤ 8192) && (decide (0 ≤ f.frm) && (decide (f.frm ≤ 65536) && (decide (0 ≤ f.len) && (decide (f.len ≤ 65536 - f.frm) && decide (chkN f.name = 0))))))
def aheadF (q : Option S) (p : S) : Bool := match q with
  | none => true
  | some q => decide (cK q p < 0)
def tabF : Option S → List Fl → Bool
  | _, [] => true
  | q, f :: fs => mayF f && (aheadF q f.name && tabF (some f.name) fs)
def checkT (l : List Fl) : Int := if 256 < l.length then 1 else if tabF none l = true then 0 else 1

def kL (p : S) : List Fl → Nat
  | [] => 0
  | g :: l => if cK g.name p < 0 then kL p l + 1 else 0
def hasL (p : S) : List Fl → Bool
  | [] => false
  | g :: l => if cK g.name p < 0 then hasL p l else decide (cK g.name p = 0)
def putL (f : Fl) : List Fl → List Fl
  | [] => [f]
  | g :: l => if cK g.name f.name < 0 then g :: putL f l else if cK g.name f.name = 0 then f :: l else f :: g :: l
def delL (p : S) : List Fl → List Fl
  | [] => []
  | g :: l => if cK g.name p < 0 then g :: delL p l else if cK g.name p = 0 then l else g :: l

theorem checkT_or (l : List Fl) : checkT l = 0 ∨ checkT l = 1 := by
  unfold checkT; split
  · simp
  · split <;> simp
theorem checkT_zero {l : List Fl} : checkT l = 0 ↔ l.length ≤ 256 ∧ tabF none l = true := by
  unfold checkT
  split
  · rename_i h; exact ⟨fun e => absurd e (by decide), fun e => by omega⟩
  · rename_i h
    split
    · rename_i h2; exact ⟨fun _ => ⟨by omega, h2⟩, fun _ => rfl⟩
    · rename_i h2; exact ⟨fun e => absurd e (by decide), fun e => absurd e.2 h2⟩

theorem tabF_cons {q : Option S} {f : Fl} {l : List Fl} : tabF q (f :: l) = true ↔ mayF f = true ∧ aheadF q f.name = true ∧ tabF (some f.name) l = true := by
  conv => lhs; unfold tabF
  simp only [Bool.and_eq_true]
theorem tabF_mono {a b : S} {l : List Fl} (h : tabF (some b) l = true) (hab : cK a b < 0) : tabF (some a) l = true := by
  cases l with
  | nil => rfl
  | cons f l =>
    obtain ⟨h1, h2, h3⟩ := tabF_cons.1 h
    refine tabF_cons.2 ⟨h1, ?_, h3⟩
    unfold aheadF at h2 ⊢
    simp only [decide_eq_true_eq] at h2 ⊢
    exact cK_tr hab h2
theorem tabF_gt {a : S} {l : List Fl} (h : tabF (some a) l = true) : ∀ f ∈ l, cK a f.name < 0 := by
  induction l generalizing a with
  | nil => simp
  | cons x l ih =>
    obtain ⟨h1, h2, h3⟩ := tabF_cons.1 h
    unfold aheadF at h2
    simp only [decide_eq_true_eq] at h2
    intro f hf
    rcases List.mem_cons.1 hf with rfl | hf
    · exact h2
    · exact cK_tr h2 (ih h3 f hf)
theorem tabF_may {q : Option S} {l : List Fl} (h : tabF q l = true) : ∀ f ∈ l, mayF f = true := by
  induction l generalizing q with
  | nil => simp
  | cons x l ih =>
    obtain ⟨h1, _, h3⟩ := tabF_cons.1 h
    intro f hf
    rcases List.mem_cons.1 hf with rfl | hf
    · exact h1
    · exact ih h3 f hf
theorem mayF_chk {f : Fl} (h : mayF f = true) : chkN f.name = 0 := by
  unfold mayF at h
  simp only [Bool.and_eq_true, decide_eq_true_eq] at h
  exact h.2.2.2.2.2.2

theorem kL_le (p : S) (l : List Fl) : kL p l ≤ l.length := by
  induction l with
  | nil => exact Nat.le_refl _
  | cons x l ih => unfold kL; split <;> simp <;> omega
theorem kL_lo {p : S} : ∀ {l : List Fl} {j : Nat} (hj : j < l.length), j < kL p l → cK l[j].name p < 0
  | [], j, hj, _ => by simp at hj
  | x :: l, j, hj, h => by
    unfold kL at h
    split at h
    · rename_i hx
      cases j with
      | zero => exact hx
      | succ j => exact kL_lo (l := l) (j := j) (by simp at hj; omega) (by omega)
    · omega
theorem kL_hi {p : S} {q : Option S} : ∀ {l : List Fl} {j : Nat} (hj : j < l.length), tabF q l = true → kL p l ≤ j → ¬ cK l[j].name p < 0
  | [], j, hj, _, _ => by simp at hj
  | x :: l, j, hj, ht, h => by
    obtain ⟨h1, h2, h3⟩ := tabF_cons.1 ht
    unfold kL at h
    split at h
    · cases j with
      | zero => omega
      | succ j => exact kL_hi (l := l) (j := j) (by simp at hj; omega) h3 (by omega)
    · rename_i hx
      cases j with
      | zero => exact hx
      | succ j =>
        intro hlt
        have hm : l[j]'(by simp at hj; omega) ∈ l := List.getElem_mem _
        exact hx (cK_tr (tabF_gt h3 _ hm) hlt)
theorem hasL_k {p : S} : ∀ {l : List Fl}, hasL p l = true ↔ ∃ h : kL p l < l.length, cK (l[kL p l]'h).name p = 0
  | [] => by simp [hasL, kL]
  | x :: l => by
    unfold hasL kL
    split
    · rw [hasL_k (l := l)]
      constructor
      · rintro ⟨h1, h2⟩; exact ⟨by simp; omega, by simpa using h2⟩
      · rintro ⟨h1, h2⟩; exact ⟨by simp at h1; omega, by simpa using h2⟩
    · simp
theorem putL_has {f : Fl} : ∀ {l : List Fl}, hasL f.name l = true → putL f l = l.set (kL f.name l) f
  | [], h => by simp [hasL] at h
  | x :: l, h => by
    unfold hasL at h
    unfold putL kL
    split
    · rename_i hx; rw [if_pos hx] at h; rw [putL_has h]; rfl
    · rename_i hx; rw [if_neg hx] at h; simp only [decide_eq_true_eq] at h; rw [if_pos h]; rfl
theorem putL_new {f : Fl} : ∀ {l : List Fl}, hasL f.name l = false → putL f l = l.take (kL f.name l) ++ (f :: l.drop (kL f.name l))
  | [], _ => rfl
  | x :: l, h => by
    unfold hasL at h
    unfold putL kL
    split
    · rename_i hx; rw [if_pos hx] at h; rw [putL_new h]; rfl
    · rename_i hx; rw [if_neg hx] at h; simp only [decide_eq_false_iff_not] at h; rw [if_neg h]; rfl
theorem delL_has {p : S} : ∀ {l : List Fl}, hasL p l = true → delL p l = l.take (kL p l) ++ l.drop (kL p l + 1)
  | [], h => by simp [hasL] at h
  | x :: l, h => by
    unfold hasL at h
    unfold delL kL
    split
    · rename_i hx; rw [if_pos hx] at h; rw [delL_has h]; rfl
    · rename_i hx; rw [if_neg hx] at h; simp only [decide_eq_true_eq] at h; rw [if_pos h]; rfl
theorem putL_len (f : Fl) : ∀ l : List Fl, (putL f l).length = l.length + (if hasL f.name l = true then 0 else 1)
  | [] => rfl
  | x :: l => by
    unfold putL hasL
    split
    · rw [List.length_cons, putL_len f l]; simp; omega
    · split
      · rename_i h; simp [h]
      · rename_i h; simp [h]
theorem putL_tab {f : Fl} (hf : mayF f = true) : ∀ {l : List Fl} {q : Option S}, tabF q l = true → aheadF q f.name = true → tabF q (putL f l) = true
  | [], q, _, hq => tabF_cons.2 ⟨hf, hq, rfl⟩
  | x :: l, q, h, hq => by
    obtain ⟨h1, h2, h3⟩ := tabF_cons.1 h
    unfold putL
    split
    · rename_i hx; exact tabF_cons.2 ⟨h1, h2, putL_tab hf h3 (by unfold aheadF; simpa using hx)⟩
    · split
      · rename_i hx; exact tabF_cons.2 ⟨hf, hq, by rw [← cK_eq.1 hx]; exact h3⟩
      · rename_i hx hx2
        refine tabF_cons.2 ⟨hf, hq, tabF_cons.2 ⟨h1, ?_, h3⟩⟩
        unfold aheadF
        have := cK_anti x.name f.name
        simp only [decide_eq_true_eq]; omega
theorem putL_check {f : Fl} {l : List Fl} (hf : mayF f = true) (h : checkT l = 0) (hl : (putL f l).length ≤ 256) : checkT (putL f l) = 0 :=
  checkT_zero.2 ⟨hl, putL_tab hf (checkT_zero.1 h).2 rfl⟩

theorem putL_lt {f x : Fl} {l : List Fl} (h : cK x.name f.name < 0) : putL f (x :: l) = x :: putL f l := by conv => lhs; unfold putL
                                                                                                            rw [if_pos h]
theorem putL_eq {f x : Fl} {l : List Fl} (h : x.name = f.name) : putL f (x :: l) = f :: l := by
  have h0 := cK_eq.2 h
  conv => lhs; unfold putL
  rw [if_neg (by omega), if_pos h0]
theorem putL_gt {f x : Fl} {l : List Fl} (h : 0 < cK x.name f.name) : putL f (x :: l) = f :: x :: l := by
  conv => lhs; unfold putL
  rw [if_neg (by omega), if_neg (by omega)]
theorem put_two {f g : Fl} (hne : f.name ≠ g.name) : ∀ l : List Fl, putL g (putL f l) = putL f (putL g l)
  | [] => by
    have h0 : ¬ cK f.name g.name = 0 := fun e => hne (cK_eq.1 e)
    have h1 := cK_anti f.name g.name
    show putL g [f] = putL f [g]
    by_cases h2 : cK f.name g.name < 0
    · rw [putL_lt h2, putL_gt (by omega)]; rfl
    · rw [putL_gt (by omega), putL_lt (by omega)]; rfl
  | x :: l => by
    have h0 : ¬ cK f.name g.name = 0 := fun e => hne (cK_eq.1 e)
    have a1 := cK_anti f.name g.name
    have a2 := cK_anti x.name f.name
    have a3 := cK_anti x.name g.name
    have t1 : cK x.name f.name < 0 → cK g.name x.name < 0 → cK g.name f.name < 0 := fun e1 e2 => cK_tr e2 e1
    have t2 : cK x.name g.name < 0 → cK f.name x.name < 0 → cK f.name g.name < 0 := fun e1 e2 => cK_tr e2 e1
    have ih := put_two hne l
    by_cases f1 : cK x.name f.name < 0
    · rw [putL_lt f1]
      by_cases g1 : cK x.name g.name < 0
      · rw [putL_lt g1, putL_lt g1, putL_lt f1, ih]
      · by_cases g2 : cK x.name g.name = 0
        · have hx := cK_eq.1 g2
          rw [putL_eq hx, putL_eq hx, putL_lt (by rw [← hx]; exact f1)]
        · rw [putL_gt (by omega), putL_gt (by omega), putL_lt (t1 f1 (by omega)), putL_lt f1]
    · by_cases f2 : cK x.name f.name = 0
      · have hx := cK_eq.1 f2
        rw [putL_eq hx]
        by_cases g1 : cK x.name g.name < 0
        · rw [putL_lt g1, putL_lt (by rw [← hx]; exact g1), putL_eq hx]
        · have g2 : ¬ cK x.name g.name = 0 := fun e => hne (hx.symm.trans (cK_eq.1 e))
          have e1 : cK f.name g.name = cK x.name g.name := by rw [hx]
          rw [putL_gt (by omega), putL_gt (by omega), putL_lt (by omega), putL_eq hx]
      · rw [putL_gt (by omega)]
        by_cases g1 : cK x.name g.name < 0
        · rw [putL_lt (t2 g1 (by omega)), putL_lt g1, putL_gt (by omega)]
        · by_cases g2 : cK x.name g.name = 0
          · have hx := cK_eq.1 g2
            have e1 : cK g.name f.name = cK x.name f.name := by rw [hx]
            rw [putL_lt (by omega), putL_eq hx, putL_gt (by omega)]
          · rw [putL_gt (x := x) (f := g) (by omega)]
            by_cases h2 : cK f.name g.name < 0
            · rw [putL_lt h2, putL_gt (by omega), putL_gt (by omega)]
            · rw [putL_gt (by omega), putL_lt (by omega), putL_gt (by omega)]

theorem put_has (f : Fl) : ∀ l : List Fl, hasL f.name (putL f l) = true
  | [] => by simp [putL, hasL, (cK_eq (a := f.name)).2 rfl]
  | x :: l => by
    unfold putL
    split
    · rename_i hx; unfold hasL; rw [if_pos hx]; exact put_has f l
    · split
      · unfold hasL; rw [if_neg (by rw [cK_eq.2 rfl]; decide)]; simpa using cK_eq.2 rfl
      · unfold hasL; rw [if_neg (by rw [cK_eq.2 rfl]; decide)]; simpa using cK_eq.2 rfl
theorem put_del {f : Fl} : ∀ {l : List Fl}, hasL f.name l = false → delL f.name (putL f l) = l
  | [], _ => by simp [putL, delL, (cK_eq (a := f.name)).2 rfl]
  | x :: l, h => by
    unfold hasL at h
    unfold putL
    split
    · rename_i hx; rw [if_pos hx] at h; unfold delL; rw [if_pos hx, put_del h]
    · rename_i hx
      rw [if_neg hx] at h
      simp only [decide_eq_false_iff_not] at h
      rw [if_neg h]
      unfold delL
      rw [if_neg (by rw [cK_eq.2 rfl]; decide), if_pos (cK_eq.2 rfl)]

def putR (l : List Fl) (f : Fl) : List Fl × Int := if checkT l ≠ 0 ∨ chkN f.name ≠ 0 ∨ mayF f ≠ true then ([], 1) else if hasL f.name l = true then (putL f l, 0) else if l.length = 256 then ([], 6) else (putL f l, 0)
def delR (l : List Fl) (p : S) : List Fl × Int := if checkT l ≠ 0 ∨ chkN p ≠ 0 then ([], 1) else if hasL p l = true then (delL p l, 0) else ([], 4)

theorem putR_ok {l m : List Fl} {f : Fl} (h : putR l f = (m, 0)) : m = putL f l ∧ checkT l = 0 ∧ mayF f = true ∧ m.length ≤ 256 ∧ checkT m = 0 := by
  unfold putR at h
  split at h
  · exact absurd (Prod.mk.inj h).2 (by decide)
  · rename_i h1
    rw [not_or, not_or] at h1
    obtain ⟨g1, g2, g3⟩ := h1
    have g1 : checkT l = 0 := by simpa using g1
    have g3 : mayF f = true := by simpa using g3
    have hl := (checkT_zero.1 g1).1
    have hlen := putL_len f l
    split at h
    · rename_i h2
      rw [if_pos h2] at hlen
      have := (Prod.mk.inj h).1.symm
      subst this
      exact ⟨rfl, g1, g3, by omega, putL_check g3 g1 (by omega)⟩
    · rename_i h2
      rw [if_neg h2] at hlen
      split at h
      · exact absurd (Prod.mk.inj h).2 (by decide)
      · have := (Prod.mk.inj h).1.symm
        subst this
        exact ⟨rfl, g1, g3, by omega, putL_check g3 g1 (by omega)⟩
theorem putR_put {l : List Fl} {f : Fl} (h : checkT l = 0) (hf : mayF f = true) (hl : l.length < 256) : putR l f = (putL f l, 0) := by
  unfold putR
  rw [if_neg (by rw [mayF_chk hf, hf, h]; simp), if_neg (c := l.length = 256) (by omega)]
  split <;> rfl

end Go.Proofs.YtengjcdilnikhaaDoor
