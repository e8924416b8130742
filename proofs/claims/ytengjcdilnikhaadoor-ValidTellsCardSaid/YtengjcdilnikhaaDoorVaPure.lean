/-
  Commits: plain laws.
-/
import Derived.Test.YtengjcdilnikhaaDoorNmPure
namespace Go.Proofs.YtengjcdilnikhaaDoor
set_option linter.unusedSimpArgs false
set_option linter.unusedVariables false
set_option linter.unnecessarySimpa false
open Go Am

/-- a commit -/
structure Dn where
  gen : Int
  names : List S

/-- names rise, the one ahead being q -/
def riseF : Option S → List S → Bool
  | _, [] => true
  | q, p :: ps => decide (chkN p = 0) && ((match q with
    | none => true
    | some q => decide ((cmpN q p).2 = 0) && decide ((cmpN q p).1 < 0)) && riseF (some p) ps)
def risesX (l : List S) (most : Nat) : Bool := riseF none l && decide (l.length ≤ most)

def ckF : Int → List Dn → Bool
  | _, [] => true
  | last, d :: ds => decide (last < d.gen) && (decide (d.gen ≤ 1099511627776) && (risesX d.names 256 && ckF d.gen ds))
def checkX (l : List Dn) : Int := if 1024 < l.length then 1 else if ckF 0 l = true then 0 else 1

/-- the folders that are to rise -/
def dirsX : List S → List S
  | [] :: ds => ds
  | ds => ds
def mayX (rn rd : List S) : Int := if rd.length ≤ 1024 ∧ risesX rn 1024 = true ∧ risesX (dirsX rd) 1024 = true then 0 else 1

def hitX1 (rn rd : List S) (p : S) : Bool := rn.any (fun q => decide (q = p)) || rd.any (fun dir => decide ((withinN dir p).2 = 0) && (withinN dir p).1)
def touchX (rn rd names : List S) : Bool := names.any (hitX1 rn rd)
def touchR (rn rd names : List S) : Bool × Int := if mayX rn rd ≠ 0 ∨ risesX names names.length ≠ true then (false, 1) else (touchX rn rd names, 0)
def hitD (begin : Int) (rn rd : List S) (d : Dn) : Bool := decide (begin < d.gen) && touchX rn rd d.names
def clashR (l : List Dn) (begin : Int) (rn rd : List S) : Int × Int := if checkX l ≠ 0 ∨ mayX rn rd ≠ 0 then (0, 1) else match l.find? (hitD begin rn rd) with
  | none => (0, 0)
  | some d => (d.gen, 9)
def lastG (l : List Dn) : Int := match l.getLast? with
  | none => 0
  | some d => d.gen
def addR (l : List Dn) (gen : Int) (names : List S) : List Dn × Int :=
  if checkX l ≠ 0 ∨ checkX [⟨gen, names⟩] ≠ 0 ∨ (l ≠ [] ∧ gen ≤ lastG l) then ([], 1) else if l.length = 1024 then ([], 6) else (l ++ [⟨gen, names⟩], 0)
def trimR (l : List Dn) (gen : Int) : List Dn × Int := if checkX l ≠ 0 then ([], checkX l) else (l.filter (fun d => decide (gen < d.gen)), 0)

theorem checkX_or (l : List Dn) : checkX l = 0 ∨ checkX l = 1 := by unfold checkX; split; · simp
                                                                    split <;> simp
theorem mayX_or (rn rd : List S) : mayX rn rd = 0 ∨ mayX rn rd = 1 := by unfold mayX; split <;> simp

theorem checkX_zero {l : List Dn} : checkX l = 0 ↔ l.length ≤ 1024 ∧ ckF 0 l = true := by
  unfold checkX
  split
  · rename_i h; constructor
    · intro e; exact absurd e (by decide)
    · intro e; omega
  · rename_i h
    split
    · rename_i h2; simp [h2]; omega
    · rename_i h2; constructor
      · intro e; exact absurd e (by decide)
      · intro e; exact absurd e.2 h2

theorem ckF_mono {a b : Int} {l : List Dn} (h : ckF b l = true) (hab : a ≤ b) : ckF a l = true := by
  cases l with
  | nil => rfl
  | cons d ds =>
    unfold ckF at h ⊢
    simp only [Bool.and_eq_true, decide_eq_true_eq] at h ⊢
    exact ⟨by omega, h.2⟩

theorem ckF_cons (last : Int) (d : Dn) (ds : List Dn) : ckF last (d :: ds) = (decide (last < d.gen) && (decide (d.gen ≤ 1099511627776) && (risesX d.names 256 && ckF d.gen ds))) := rfl
/-- the last one's -/
def endG (last : Int) (a : List Dn) : Int := match a.getLast? with
    | none => last
    | some d => d.gen
theorem endG_cons (last : Int) (d : Dn) (ds : List Dn) : endG last (d :: ds) = endG d.gen ds := by
  unfold endG
  cases ds with
  | nil => rfl
  | cons x xs =>
    rw [List.getLast?_cons_cons]
    cases h : (x :: xs).getLast? with
    | none => simp at h
    | some y => rfl
theorem ckF_app {last : Int} {a b : List Dn} : ckF last (a ++ b) = (ckF last a && ckF (endG last a) b) := by
  induction a generalizing last with
  | nil => rfl
  | cons d ds ih =>
    rw [List.cons_append, ckF_cons, ckF_cons, ih, endG_cons]
    simp only [Bool.and_assoc]

theorem ckF_gt {last : Int} {l : List Dn} (h : ckF last l = true) : ∀ d ∈ l, last < d.gen ∧ d.gen ≤ 1099511627776 ∧ risesX d.names 256 = true := by
  induction l generalizing last with
  | nil => simp
  | cons x xs ih =>
    unfold ckF at h
    simp only [Bool.and_eq_true, decide_eq_true_eq] at h
    intro d hd
    rcases List.mem_cons.1 hd with rfl | hd
    · exact ⟨h.1, h.2.1, h.2.2.1⟩
    · have := ih h.2.2.2 d hd
      exact ⟨by omega, this.2⟩

theorem ckF_le {last : Int} {l : List Dn} (h : ckF last l = true) : ∀ d ∈ l, d.gen ≤ lastG l := by
  induction l generalizing last with
  | nil => simp
  | cons x xs ih =>
    unfold ckF at h
    simp only [Bool.and_eq_true, decide_eq_true_eq] at h
    intro d hd
    cases xs with
    | nil => simp at hd; subst hd; simp [lastG]
    | cons y ys =>
      have e : lastG (x :: y :: ys) = lastG (y :: ys) := by simp [lastG]
      rw [e]
      rcases List.mem_cons.1 hd with rfl | hd
      · have h1 := (ckF_gt h.2.2.2 y (by simp)).1
        have h2 := ih h.2.2.2 y (by simp)
        omega
      · exact ih h.2.2.2 d hd

theorem ckF_filter {last : Int} {l : List Dn} (h : ckF last l = true) (f : Dn → Bool) : ckF last (l.filter f) = true := by
  induction l generalizing last with
  | nil => rfl
  | cons x xs ih =>
    have h' := h
    unfold ckF at h
    simp only [Bool.and_eq_true, decide_eq_true_eq] at h
    rw [List.filter_cons]
    split
    · unfold ckF
      simp only [Bool.and_eq_true, decide_eq_true_eq]
      exact ⟨h.1, h.2.1, h.2.2.1, ih h.2.2.2⟩
    · exact ckF_mono (ih h.2.2.2) (by omega)

theorem riseF_any {q : Option S} {l : List S} (h : riseF q l = true) : riseF none l = true := by
  cases l with
  | nil => rfl
  | cons p ps =>
    unfold riseF at h ⊢
    simp only [Bool.and_eq_true] at h ⊢
    exact ⟨h.1, trivial, h.2.2⟩
theorem riseF_mem {q : Option S} {l : List S} (h : riseF q l = true) : ∀ p ∈ l, chkN p = 0 := by
  induction l generalizing q with
  | nil => simp
  | cons x xs ih =>
    unfold riseF at h
    simp only [Bool.and_eq_true, decide_eq_true_eq] at h
    intro p hp
    rcases List.mem_cons.1 hp with rfl | hp
    · exact h.1
    · exact ih h.2.2 p hp
theorem rises_one {p : S} {most : Nat} (hm : 0 < most) : risesX [p] most = decide (chkN p = 0) := by
  unfold risesX riseF riseF
  simp; intro _; omega

theorem touch_nil (names : List S) : touchX [] [] names = false := by
  unfold touchX hitX1; simp

/-! ### laws -/
theorem mayX_nil : mayX [] [] = 0 := rfl

theorem alone_last {l : List Dn} {rn rd : List S} (hc : checkX l = 0) (hm : mayX rn rd = 0) : clashR l (lastG l) rn rd = (0, 0) := by
  unfold clashR
  rw [if_neg (by simp [hc, hm])]
  have : l.find? (hitD (lastG l) rn rd) = none := by
    rw [List.find?_eq_none]
    intro d hd
    have := ckF_le (checkX_zero.1 hc).2 d hd
    unfold hitD
    rw [decide_eq_false (by omega)]; simp
  rw [this]

theorem alone_none {l : List Dn} {begin : Int} (hc : checkX l = 0) : clashR l begin [] [] = (0, 0) := by
  unfold clashR
  rw [if_neg (by simp [hc, mayX_nil])]
  have : l.find? (hitD begin [] []) = none := by
    rw [List.find?_eq_none]
    intro d hd
    unfold hitD
    rw [touch_nil]; simp
  rw [this]

theorem mayX_iff {rn rd : List S} : mayX rn rd = 0 ↔ rd.length ≤ 1024 ∧ risesX rn 1024 = true ∧ risesX (dirsX rd) 1024 = true := by
  unfold mayX; split <;> simp_all

theorem more_one {rn rd : List S} {p : S} (hm : mayX rn rd = 0) (hp : chkN p = 0) : touchR rn rd [p] = (hitX1 rn rd p, 0) ∧ touchR rn [] [p] = (hitX1 rn [] p, 0) ∧ touchR [] rd [p] = (hitX1 [] rd p, 0) ∧ hitX1 rn rd p = (hitX1 rn [] p || hitX1 [] rd p) := by
  obtain ⟨h1, h2, h3⟩ := mayX_iff.1 hm
  have hr : risesX [p] 1 = true := by rw [rises_one (by decide)]; simp [hp]
  have m1 : mayX rn [] = 0 := mayX_iff.2 ⟨by simp, h2, rfl⟩
  have m2 : mayX [] rd = 0 := mayX_iff.2 ⟨h1, rfl, h3⟩
  refine ⟨?_, ?_, ?_, ?_⟩
  · unfold touchR; rw [if_neg (by simp [hm, hr])]; simp [touchX]
  · unfold touchR; rw [if_neg (by simp [m1, hr])]; simp [touchX]
  · unfold touchR; rw [if_neg (by simp [m2, hr])]; simp [touchX]
  · simp [hitX1]

theorem touchR_bad {rn rd names : List S} (h : (touchR rn rd names).2 ≠ 0) : (touchR rn rd names).1 = false := by
  unfold touchR at h ⊢
  split
  · rfl
  · rename_i h1; rw [if_neg h1] at h; exact absurd rfl h
theorem touchR_ok {rn rd names : List S} (h : (touchR rn rd names).2 = 0) : mayX rn rd = 0 ∧ riseF none names = true ∧ (touchR rn rd names).1 = touchX rn rd names := by
  unfold touchR at h ⊢
  split at h
  · exact absurd h (show ¬ (1 : Int) = 0 by decide)
  · rename_i h1
    rw [if_neg h1]
    rw [not_or] at h1
    refine ⟨by simpa using h1.1, ?_, rfl⟩
    have : risesX names names.length = true := by simpa using h1.2
    unfold risesX at this
    simp only [Bool.and_eq_true] at this
    exact this.1

theorem clashR_bad {l : List Dn} {begin : Int} {rn rd : List S} : (clashR l begin rn rd).2 = 1 ↔ (checkX l ≠ 0 ∨ mayX rn rd ≠ 0) := by
  unfold clashR
  split
  · rename_i h; exact ⟨fun _ => h, fun _ => rfl⟩
  · rename_i h
    split
    · exact ⟨fun e => absurd e (by decide), fun e => absurd e h⟩
    · exact ⟨fun e => absurd e (show ¬ (9 : Int) = 1 by decide), fun e => absurd e h⟩
theorem clashR_bad0 {l : List Dn} {begin : Int} {rn rd : List S} (h : (clashR l begin rn rd).2 = 1) : (clashR l begin rn rd).1 = 0 := by
  unfold clashR; rw [if_pos (clashR_bad.1 h)]
theorem clashR_ok {l : List Dn} {begin : Int} {rn rd : List S} (hc : checkX l = 0) (hm : mayX rn rd = 0) : clashR l begin rn rd = match l.find? (hitD begin rn rd) with
  | none => (0, 0)
  | some d => (d.gen, 9) := by
  unfold clashR; rw [if_neg (by simp [hc, hm])]

/-- commits trimmed at the beginning clash likewise -/
theorem trim_clash {l : List Dn} {begin : Int} {rn rd : List S} (h0 : 0 ≤ begin) (hc : checkX l = 0) (hm : mayX rn rd = 0) : (trimR l begin).2 = 0 ∧ clashR (trimR l begin).1 0 rn rd = clashR l begin rn rd := by
  have ht : trimR l begin = (l.filter (fun d => decide (begin < d.gen)), 0) := by unfold trimR; rw [if_neg (by simp [hc])]
  obtain ⟨c1, c2⟩ := checkX_zero.1 hc
  rw [ht]
  refine ⟨rfl, ?_⟩
  have hc2 : checkX (l.filter (fun d => decide (begin < d.gen))) = 0 := checkX_zero.2 ⟨Nat.le_trans (List.length_filter_le _ _) c1, ckF_filter c2 _⟩
  rw [clashR_ok hc2 hm, clashR_ok hc hm, List.find?_filter]
  have : (fun d : Dn => decide (begin < d.gen) && hitD 0 rn rd d) = hitD begin rn rd := by
    funext d
    unfold hitD
    by_cases h : begin < d.gen
    · rw [decide_eq_true h, decide_eq_true (show (0 : Int) < d.gen by omega)]; simp
    · rw [decide_eq_false h]; simp
  have e2 : (fun a : Dn => decide (decide (begin < a.gen) = true ∧ hitD 0 rn rd a = true)) = hitD begin rn rd := by
    funext d
    rw [← this]
    rw [Bool.eq_iff_iff]; simp
  first
    | rw [this]
    | rw [e2]
    | simp only [e2]

theorem addR_ok {l m : List Dn} {gen : Int} {names : List S} (h : addR l gen names = (m, 0)) : m = l ++ [⟨gen, names⟩] ∧ checkX l = 0 ∧ checkX m = 0 ∧ riseF none names = true := by
  unfold addR at h
  split at h
  · exact absurd (Prod.mk.inj h).2 (by decide)
  · rename_i h1
    split at h
    · exact absurd (Prod.mk.inj h).2 (by decide)
    · rename_i h2
      have hm := (Prod.mk.inj h).1.symm
      rw [not_or, not_or] at h1
      obtain ⟨g1, g2, g3⟩ := h1
      have g1 : checkX l = 0 := by simpa using g1
      have g2 : checkX [⟨gen, names⟩] = 0 := by simpa using g2
      obtain ⟨c1, c2⟩ := checkX_zero.1 g1
      obtain ⟨_, d2⟩ := checkX_zero.1 g2
      refine ⟨hm, g1, ?_, ?_⟩
      · rw [hm]
        refine checkX_zero.2 ⟨by simp; omega, ?_⟩
        rw [ckF_app, c2, Bool.true_and]
        unfold ckF at d2 ⊢
        simp only [Bool.and_eq_true, decide_eq_true_eq] at d2 ⊢
        refine ⟨?_, d2.2⟩
        unfold endG
        cases hl : l.getLast? with
        | none => exact d2.1
        | some d =>
          have hne : l ≠ [] := by intro e; subst e; simp at hl
          have : ¬ gen ≤ lastG l := fun e => g3 ⟨hne, e⟩
          unfold lastG at this
          rw [hl] at this
          simp only at this ⊢; omega
      · unfold ckF risesX at d2
        simp only [Bool.and_eq_true] at d2
        exact d2.2.2.1.1

/-- one commit more -/
theorem add_clash {l m : List Dn} {gen begin : Int} {names rn rd : List S} (ha : addR l gen names = (m, 0)) (hm : mayX rn rd = 0) :
    (touchR rn rd names = (touchX rn rd names, 0)) ∧ clashR m begin rn rd = (if (clashR l begin rn rd).2 = 9 then clashR l begin rn rd else if begin < gen ∧ touchX rn rd names = true then (gen, 9) else clashR l begin rn rd) := by
  obtain ⟨rfl, hc, hc2, hr⟩ := addR_ok ha
  refine ⟨?_, ?_⟩
  · unfold touchR; rw [if_neg (by simp [hm, risesX, hr])]
  · rw [clashR_ok hc2 hm, clashR_ok hc hm, List.find?_append]
    cases hf : l.find? (hitD begin rn rd) with
    | some d => simp
    | none =>
      simp only [Option.none_or, List.find?_cons, List.find?_nil]
      rw [if_neg (by decide)]
      by_cases h1 : begin < gen
      · cases h2 : touchX rn rd names
        · simp [hitD, h1, h2]
        · simp [hitD, h1, h2]
      · simp [hitD, h1]

end Go.Proofs.YtengjcdilnikhaaDoor
