/-
  Files as values; Tables: plain laws of the reference.
-/
import Derived.Test.YtengjcdilnikhaaDoorNmC1
import Derived.Test.YtengjcdilnikhaaDoorTbPure
import Derived.Test.YtengjcdilnikhaaDoorAmLend
import Derived.Test.YtengjcdilnikhaaDoorSlEnds
namespace Go.Proofs.YtengjcdilnikhaaDoor
set_option linter.unusedSimpArgs false
set_option linter.unusedVariables false
set_option linter.unnecessarySimpa false
open Go Am

abbrev encF (f : Fl) : List PD := [.v (.string (mkS f.name)), .v (.float .f64 f.rank), .v (.int .u32 f.sum), .v (.int .i64 f.blk), .v (.int .i64 f.frm), .v (.int .i64 f.len)]
abbrev FlV (f : Fl) : AV := .agg ((encF f).map .p)
abbrev FlsV (l : List Fl) : AV := .one (.p (.sl 6 (l.map encF)))

theorem encF_getD (l : List Fl) (i : Nat) (h : i < l.length) : (l.map encF).getD i [] = encF l[i] := by simp [List.getD, h]
theorem okEs_fl (l : List Fl) : okEs 6 (l.map encF) := fun e he => by
  obtain ⟨x, _, rfl⟩ := List.mem_map.1 he
  refine ⟨rfl, fun d hd => ?_⟩
  simp at hd
  rcases hd with rfl | rfl | rfl | rfl | rfl | rfl <;> rfl

end Go.Proofs.YtengjcdilnikhaaDoor

namespace Go.Proofs.YtengjcdilnikhaaDoor
set_option linter.unusedSimpArgs false
set_option linter.unusedVariables false
set_option linter.unnecessarySimpa false
open Go Am

theorem idx_none {α : Type} (f : α → Bool) : ∀ (l : List α) (i : Nat), (∀ x ∈ l, f x = false) → idxFrom f i l = -1
  | [], _, _ => by simp [idxFrom]
  | x :: l, i, h => by
    unfold idxFrom
    rw [if_neg (by rw [h x (by simp)]; simp)]
    exact idx_none f l (i + 1) (fun y hy => h y (by simp [hy]))

theorem tabF_ne {a p : S} {l : List Fl} (h : tabF (some a) l = true) (ha : ¬ cK a p < 0) : ∀ f ∈ l, f.name ≠ p := by
  intro f hf e
  exact ha (by rw [← e]; exact tabF_gt h f hf)

theorem find_eq {p : S} : ∀ {l : List Fl} {q : Option S} (i : Nat), tabF q l = true → idxFrom (fun f => decide (f.name = p)) i l = if hasL p l = true then ((i + kL p l : Nat) : Int) else -1
  | [], _, i, _ => by simp [idxFrom, hasL]
  | x :: l, q, i, h => by
    obtain ⟨_, _, h3⟩ := tabF_cons.1 h
    unfold idxFrom hasL kL
    by_cases hx : x.name = p
    · have h0 : cK x.name p = 0 := cK_eq.2 hx
      rw [if_pos (by simpa using hx)]
      simp [h0]
    · have h0 : ¬ cK x.name p = 0 := fun e => hx (cK_eq.1 e)
      rw [if_neg (by simpa using hx)]
      by_cases hlt : cK x.name p < 0
      · simp only [if_pos hlt]
        rw [find_eq (i + 1) h3]
        split
        · congr 1; omega
        · rfl
      · simp only [if_neg hlt]
        rw [idx_none _ _ _ (fun y hy => by simpa using tabF_ne h3 hlt y hy)]
        simp [h0]

theorem without_eq {p : S} : ∀ {l : List Fl} {q : Option S}, tabF q l = true → l.filter (fun f => !decide (f.name = p)) = delL p l
  | [], _, _ => rfl
  | x :: l, q, h => by
    obtain ⟨_, _, h3⟩ := tabF_cons.1 h
    have hall : ¬ cK x.name p < 0 → l.filter (fun f => !decide (f.name = p)) = l := fun hlt => List.filter_eq_self.2 (fun y hy => by simpa using tabF_ne h3 hlt y hy)
    unfold delL
    by_cases hx : x.name = p
    · have h0 : cK x.name p = 0 := cK_eq.2 hx
      rw [List.filter_cons, if_neg (by simpa using hx), if_neg (by omega), if_pos h0]
      exact hall (by omega)
    · have h0 : ¬ cK x.name p = 0 := fun e => hx (cK_eq.1 e)
      rw [List.filter_cons, if_pos (by simpa using hx)]
      by_cases hlt : cK x.name p < 0
      · rw [if_pos hlt, without_eq h3]
      · rw [if_neg hlt, if_neg h0, hall hlt]

theorem with_eq {f : Fl} : ∀ {l : List Fl} {q : Option S}, tabF q l = true → l.filter (fun x => decide (cK x.name f.name < 0)) ++ (f :: l.filter (fun x => decide (cK f.name x.name < 0))) = putL f l
  | [], _, _ => rfl
  | x :: l, q, h => by
    obtain ⟨_, _, h3⟩ := tabF_cons.1 h
    have ha := cK_anti x.name f.name
    by_cases hlt : cK x.name f.name < 0
    · rw [putL_lt hlt, List.filter_cons, if_pos (by simpa using hlt), List.filter_cons, if_neg (by simp only [decide_eq_true_eq]; omega), List.cons_append, with_eq h3]
    · have hge : ∀ y ∈ l, ¬ cK y.name f.name < 0 := fun y hy e => hlt (cK_tr (tabF_gt h3 y hy) e)
      have hgt : ∀ y ∈ l, cK f.name y.name < 0 := fun y hy => by
        by_cases h0 : cK x.name f.name = 0
        · rw [← cK_eq.1 h0]; exact tabF_gt h3 y hy
        · exact cK_tr (show cK f.name x.name < 0 by omega) (tabF_gt h3 y hy)
      have e1 : l.filter (fun x => decide (cK x.name f.name < 0)) = [] := List.filter_eq_nil_iff.2 (fun y hy => by simpa using hge y hy)
      have e2 : l.filter (fun x => decide (cK f.name x.name < 0)) = l := List.filter_eq_self.2 (fun y hy => by simpa using hgt y hy)
      rw [List.filter_cons, if_neg (by simpa using hlt), e1, List.nil_append, List.filter_cons]
      by_cases h0 : cK x.name f.name = 0
      · rw [if_neg (by simp only [decide_eq_true_eq]; omega), e2, putL_eq (cK_eq.1 h0)]
      · rw [if_pos (by simp only [decide_eq_true_eq]; omega), e2, putL_gt (by omega)]

/-- a file moved -/
def movR (l : List Fl) (p q : S) : List Fl × Int := if checkT l ≠ 0 ∨ chkN p ≠ 0 ∨ chkN q ≠ 0 then ([], 1) else if hasL p l ≠ true then ([], 4) else if hasL q l = true ∧ p ≠ q then ([], 5) else putR (delL p l) { (l.getD (kL p l) ⟨[], 0, 0, 0, 0, 0⟩) with name := q }

theorem delL_tab {p : S} : ∀ {l : List Fl} {q : Option S}, tabF q l = true → tabF q (delL p l) = true
  | [], _, _ => rfl
  | x :: l, q, h => by
    obtain ⟨h1, h2, h3⟩ := tabF_cons.1 h
    unfold delL
    split
    · exact tabF_cons.2 ⟨h1, h2, delL_tab h3⟩
    · split
      · cases q with
        | none => cases l with
          | nil => rfl
          | cons y l => obtain ⟨g1, _, g3⟩ := tabF_cons.1 h3; exact tabF_cons.2 ⟨g1, rfl, g3⟩
        | some q =>
          unfold aheadF at h2
          exact tabF_mono h3 (by simpa using h2)
      · exact h
theorem delL_len (p : S) : ∀ l : List Fl, (delL p l).length = l.length - (if hasL p l = true then 1 else 0)
  | [] => rfl
  | x :: l => by
    have hk := delL_len p l
    unfold delL hasL
    split
    · rw [List.length_cons, List.length_cons, hk]
      split
      · rename_i _ hh
        obtain ⟨h1, _⟩ := hasL_k.1 hh
        omega
      · omega
    · split
      · rename_i h0; simp [h0]
      · rename_i h0; simp [h0]
/-- what is moved may be put -/
theorem mov_may {l : List Fl} {p q : S} (hc : checkT l = 0) (hq : chkN q = 0) (hp : hasL p l = true) : mayF { (l.getD (kL p l) ⟨[], 0, 0, 0, 0, 0⟩) with name := q } = true := by
  obtain ⟨hk, _⟩ := hasL_k.1 hp
  have hg : l.getD (kL p l) ⟨[], 0, 0, 0, 0, 0⟩ = l[kL p l] := by simp [List.getD, hk]
  rw [hg]
  have := tabF_may (checkT_zero.1 hc).2 _ (List.getElem_mem hk)
  unfold mayF at this ⊢
  simp only [Bool.and_eq_true, decide_eq_true_eq] at this ⊢
  exact ⟨this.1, this.2.1, this.2.2.1, this.2.2.2.1, this.2.2.2.2.1, this.2.2.2.2.2.1, hq⟩
theorem mov_put {l : List Fl} {p q : S} (hc : checkT l = 0) (hq : chkN q = 0) (hp : hasL p l = true) : putR (delL p l) { (l.getD (kL p l) ⟨[], 0, 0, 0, 0, 0⟩) with name := q } = (putL { (l.getD (kL p l) ⟨[], 0, 0, 0, 0, 0⟩) with name := q } (delL p l), 0) := by
  have h1 := (checkT_zero.1 hc).1
  have h2 := delL_len p l
  rw [if_pos hp] at h2
  obtain ⟨hk, _⟩ := hasL_k.1 hp
  exact putR_put (checkT_zero.2 ⟨by omega, delL_tab (checkT_zero.1 hc).2⟩) (mov_may hc hq hp) (by omega)

end Go.Proofs.YtengjcdilnikhaaDoor
