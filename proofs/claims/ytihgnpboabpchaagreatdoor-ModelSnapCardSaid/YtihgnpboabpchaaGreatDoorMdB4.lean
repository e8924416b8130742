/-
  Part 4 of the proof of modelSnap_card: steps of the machine, walks and plain laws; each holds under the conditions that it states.
-/
import Derived.Test.YtihgnpboabpchaaGreatDoorMdB3
import Derived.KernelRfl
import Derived.Test.YtihgnpboabpchaaGreatDoorCards
import Derived.Test.YtihgnpboabpchaaGreatDoorTie
import Derived.Test.YtihgnpboabpchaaGreatDoorMdB2
import Derived.Lay
import Derived.MakeChecks
import Derived.SevenTiedAt
import Derived.IntWalk
import Derived.WalkKit
import Derived.RowKit
import Derived.Shelf.Abstract

namespace Go.Proofs.YtihgnpboabpchaaGreatDoor
set_option linter.unusedSimpArgs false
set_option linter.unusedVariables false
set_option linter.unnecessarySimpa false
open Go Am
def cmpF (a b : S) : Int := if a = b then 0 else if a = [] then -1 else if b = [] then 1 else cK a b
theorem cmpF_eq {a b : S} : cmpF a b = 0 ↔ a = b := by
  unfold cmpF
  split
  · rename_i h; exact ⟨fun _ => h, fun _ => rfl⟩
  · rename_i h
    split
    · exact ⟨fun e => by omega, fun e => absurd e h⟩
    · split
      · exact ⟨fun e => by omega, fun e => absurd e h⟩
      · exact ⟨fun e => absurd (cK_eq.1 e) h, fun e => absurd e h⟩
theorem cmpF_anti (a b : S) : cmpF b a = - cmpF a b := by
  unfold cmpF
  by_cases h : a = b
  · rw [if_pos h, if_pos h.symm]; rfl
  · rw [if_neg h, if_neg (fun e => h e.symm)]
    by_cases h1 : a = []
    · rw [if_pos h1]
      by_cases h2 : b = []
      · exact absurd (h1.trans h2.symm) h
      · rw [if_neg h2, if_pos h1]; rfl
    · rw [if_neg h1, if_neg h1]
      by_cases h2 : b = []
      · rw [if_pos h2, if_pos h2]
      · rw [if_neg h2, if_neg h2]; exact cK_anti a b
theorem cmpF_tr {a b c : S} (h1 : cmpF a b < 0) (h2 : cmpF b c < 0) : cmpF a c < 0 := by
  have n1 : a ≠ b := fun e => by rw [cmpF_eq.2 e] at h1; omega
  have n2 : b ≠ c := fun e => by rw [cmpF_eq.2 e] at h2; omega
  unfold cmpF at h1 h2 ⊢
  rw [if_neg n1] at h1
  rw [if_neg n2] at h2
  by_cases ha : a = []
  · subst ha
    by_cases hc : c = []
    · subst hc
      rw [if_neg (fun e => n1 e.symm), if_pos rfl] at h2; omega
    · rw [if_neg (fun e => hc e.symm), if_pos rfl]; omega
  · rw [if_neg ha] at h1
    by_cases hb : b = []
    · rw [if_pos hb] at h1; omega
    · rw [if_neg hb] at h1 h2
      by_cases hc : c = []
      · rw [if_pos hc] at h2; omega
      · rw [if_neg hc] at h2
        have h3 := cK_tr h1 h2
        rw [if_neg (fun e => by rw [cK_eq.2 e] at h3; omega), if_neg ha, if_neg hc]; exact h3
theorem cmpF_clean {a b : S} (ha : a ≠ []) (hb : b ≠ []) : cmpF a b = cK a b := by
  unfold cmpF
  by_cases h : a = b
  · rw [if_pos h]; exact (cK_eq.2 h).symm
  · rw [if_neg h, if_neg ha, if_neg hb]
section
variable {α : Type} (nm : α → S)
def Ris (l : List α) : Prop := l.Pairwise fun x y => cmpF (nm x) (nm y) < 0
def lowK (p : S) (l : List α) : List α := l.filter fun x => decide (cmpF (nm x) p < 0)
def higK (p : S) (l : List α) : List α := l.filter fun x => decide (0 < cmpF (nm x) p)
def getK (p : S) (l : List α) : Option α := l.find? fun x => decide (nm x = p)
def posK (p : S) (l : List α) : Nat := (lowK nm p l).length
def setK (p : S) (k : Option α) (l : List α) : List α := lowK nm p l ++ (k.toList ++ higK nm p l)
end
section
variable {α : Type} {nm : α → S}
theorem Ris.nil : Ris nm [] := List.Pairwise.nil
theorem Ris.cons {x : α} {l : List α} : Ris nm (x :: l) ↔ (∀ y ∈ l, cmpF (nm x) (nm y) < 0) ∧ Ris nm l := List.pairwise_cons
theorem Ris.sub {l m : List α} (h : Ris nm l) (s : m.Sublist l) : Ris nm m := h.sublist s
theorem getK_mem {p : S} {l : List α} {x : α} (h : getK nm p l = some x) : x ∈ l ∧ nm x = p := ⟨List.mem_of_find?_eq_some h, by have := List.find?_some h; simpa using this⟩
theorem getK_none {p : S} {l : List α} : getK nm p l = none ↔ ∀ x ∈ l, nm x ≠ p := by
  unfold getK; rw [List.find?_eq_none]; simp
theorem getK_of {p : S} {l : List α} (h : Ris nm l) {x : α} (hx : x ∈ l) (hp : nm x = p) : getK nm p l = some x := by
  induction l with
  | nil => cases hx
  | cons y l ih =>
    unfold getK
    rw [List.find?_cons]
    rcases List.mem_cons.1 hx with rfl | hx
    · rw [decide_eq_true hp]
    · have h1 := (Ris.cons.1 h).1 x hx
      have : nm y ≠ p := fun e => by rw [e, hp, cmpF_eq.2 rfl] at h1; omega
      rw [decide_eq_false this]
      exact ih (Ris.cons.1 h).2 hx
theorem splitK {p : S} : ∀ {l : List α}, Ris nm l → l = lowK nm p l ++ ((getK nm p l).toList ++ higK nm p l)
  | [], _ => rfl
  | x :: l, h => by
    obtain ⟨h1, h2⟩ := Ris.cons.1 h
    have ih := splitK (p := p) h2
    unfold lowK getK higK at ih ⊢
    rcases Int.lt_trichotomy (cmpF (nm x) p) 0 with hc | hc | hc
    · have hne : nm x ≠ p := fun e => by rw [cmpF_eq.2 e] at hc; omega
      rw [List.filter_cons_of_pos (by simpa using hc), List.filter_cons_of_neg (by simp; omega), List.find?_cons_of_neg (by simpa using hne), List.cons_append]
      exact congrArg _ ih
    · have he := cmpF_eq.1 hc
      have hl : ∀ y ∈ l, 0 < cmpF (nm y) p := fun y hy => by have := h1 y hy; rw [he] at this; rw [cmpF_anti]; omega
      rw [List.filter_cons_of_neg (by simp; omega), List.filter_cons_of_neg (by simp; omega), List.find?_cons_of_pos (by simpa using he)]
      have e1 : l.filter (fun x => decide (cmpF (nm x) p < 0)) = [] := List.filter_eq_nil_iff.2 (fun y hy => by have := hl y hy; simp; omega)
      have e2 : l.filter (fun x => decide (0 < cmpF (nm x) p)) = l := List.filter_eq_self.2 (fun y hy => by simpa using hl y hy)
      rw [e1, e2]; rfl
    · have hne : nm x ≠ p := fun e => by rw [cmpF_eq.2 e] at hc; omega
      have hl : ∀ y ∈ l, 0 < cmpF (nm y) p := fun y hy => by
        have h3 := h1 y hy
        have h4 : cmpF p (nm x) < 0 := by rw [cmpF_anti]; omega
        have := cmpF_tr h4 h3
        rw [cmpF_anti]; omega
      have e1 : l.filter (fun x => decide (cmpF (nm x) p < 0)) = [] := List.filter_eq_nil_iff.2 (fun y hy => by have := hl y hy; simp; omega)
      have e2 : l.filter (fun x => decide (0 < cmpF (nm x) p)) = l := List.filter_eq_self.2 (fun y hy => by simpa using hl y hy)
      have e3 : l.find? (fun x => decide (nm x = p)) = none := List.find?_eq_none.2 (fun y hy => by
        have := hl y hy
        simp only [decide_eq_true_eq]
        intro e; rw [cmpF_eq.2 e] at this; omega)
      rw [List.filter_cons_of_neg (by simp; omega), List.filter_cons_of_pos (by simpa using hc), List.find?_cons_of_neg (by simpa using hne), e1, e2, e3]; rfl
theorem posK_le (p : S) (l : List α) : posK nm p l ≤ l.length := List.length_filter_le _ _
theorem takeK {p : S} {l : List α} (h : Ris nm l) : l.take (posK nm p l) = lowK nm p l := by
  conv => lhs; arg 2; rw [splitK (p := p) h]
  exact List.take_left
theorem dropK {p : S} {l : List α} (h : Ris nm l) : l.drop (posK nm p l) = (getK nm p l).toList ++ higK nm p l := by
  conv => lhs; arg 2; rw [splitK (p := p) h]
  exact List.drop_left
theorem atK {p : S} {l : List α} (h : Ris nm l) {x : α} (hx : getK nm p l = some x) : ∃ hk : posK nm p l < l.length, l[posK nm p l] = x := by
  have := dropK (p := p) h
  rw [hx, Option.toList_some, List.singleton_append] at this
  have hk : posK nm p l < l.length := by
    rcases Nat.lt_or_ge (posK nm p l) l.length with h1 | h1
    · exact h1
    · rw [List.drop_of_length_le h1] at this; cases this
  exact ⟨hk, by rw [List.drop_eq_getElem_cons hk] at this; exact (List.cons.inj this).1⟩
theorem dropK1 {p : S} {l : List α} (h : Ris nm l) {x : α} (hx : getK nm p l = some x) : l.drop (posK nm p l + 1) = higK nm p l := by
  obtain ⟨hk, he⟩ := atK h hx
  have := dropK (p := p) h
  rw [hx, Option.toList_some, List.singleton_append, List.drop_eq_getElem_cons hk] at this
  exact (List.cons.inj this).2
theorem posK_lo {p : S} {l : List α} (h : Ris nm l) (j : Nat) (hj : j < l.length) (hk : j < posK nm p l) : cmpF (nm l[j]) p < 0 := by
  have h1 : l[j] ∈ l.take (posK nm p l) := by
    have : (l.take (posK nm p l))[j]'(by rw [List.length_take]; omega) = l[j] := List.getElem_take
    rw [← this]; exact List.getElem_mem _
  rw [takeK h] at h1
  simpa using (List.mem_filter.1 h1).2
theorem posK_hi {p : S} {l : List α} (h : Ris nm l) (j : Nat) (hj : j < l.length) (hk : posK nm p l ≤ j) : ¬ cmpF (nm l[j]) p < 0 := by
  have h1 : l[j] ∈ l.drop (posK nm p l) := by
    rw [List.mem_iff_getElem]
    exact ⟨j - posK nm p l, by rw [List.length_drop]; omega, by rw [List.getElem_drop]; congr 1; omega⟩
  rw [dropK h] at h1
  rcases List.mem_append.1 h1 with h1 | h1
  · obtain ⟨_, e⟩ := getK_mem (Option.mem_toList.1 h1)
    rw [cmpF_eq.2 e]; omega
  · have := (List.mem_filter.1 h1).2
    simp only [decide_eq_true_eq] at this; omega
theorem isK {p : S} {l : List α} (h : Ris nm l) : (getK nm p l).isSome = true ↔ ∃ hk : posK nm p l < l.length, cmpF (nm l[posK nm p l]) p = 0 := by
  constructor
  · intro e
    obtain ⟨x, hx⟩ := Option.isSome_iff_exists.1 e
    obtain ⟨hk, he⟩ := atK h hx
    exact ⟨hk, by rw [he]; exact cmpF_eq.2 (getK_mem hx).2⟩
  · rintro ⟨hk, he⟩
    rw [getK_of h (List.getElem_mem hk) (cmpF_eq.1 he)]; rfl
theorem low_mem {p : S} {l : List α} {x : α} : x ∈ lowK nm p l ↔ x ∈ l ∧ cmpF (nm x) p < 0 := by unfold lowK; simp
theorem hig_mem {p : S} {l : List α} {x : α} : x ∈ higK nm p l ↔ x ∈ l ∧ 0 < cmpF (nm x) p := by unfold higK; simp
theorem set_mem {p : S} {l : List α} {k : Option α} {x : α} : x ∈ setK nm p k l ↔ k = some x ∨ (x ∈ l ∧ nm x ≠ p) := by
  unfold setK
  rw [List.mem_append, List.mem_append, low_mem, hig_mem, Option.mem_toList]
  constructor
  · rintro (⟨h1, h2⟩ | h | ⟨h1, h2⟩)
    · exact .inr ⟨h1, fun e => by rw [cmpF_eq.2 e] at h2; omega⟩
    · exact .inl h
    · exact .inr ⟨h1, fun e => by rw [cmpF_eq.2 e] at h2; omega⟩
  · rintro (h | ⟨h1, h2⟩)
    · exact .inr (.inl h)
    · rcases Int.lt_trichotomy (cmpF (nm x) p) 0 with hc | hc | hc
      · exact .inl ⟨h1, hc⟩
      · exact absurd (cmpF_eq.1 hc) h2
      · exact .inr (.inr ⟨h1, hc⟩)
theorem Ris.set {p : S} {l : List α} {k : Option α} (h : Ris nm l) (hk : ∀ x, k = some x → nm x = p) : Ris nm (setK nm p k l) := by
  unfold setK
  refine List.pairwise_append.2 ⟨h.sub List.filter_sublist, List.pairwise_append.2 ⟨?_, h.sub List.filter_sublist, ?_⟩, ?_⟩
  · cases k with
    | none => exact List.Pairwise.nil
    | some x => exact List.pairwise_singleton _ _
  · intro x hx y hy
    rw [hk x (Option.mem_toList.1 hx)]
    have := (hig_mem.1 hy).2
    rw [cmpF_anti]; omega
  · intro x hx y hy
    have h1 := (low_mem.1 hx).2
    rcases List.mem_append.1 hy with hy | hy
    · rw [hk y (Option.mem_toList.1 hy)]; exact h1
    · have h2 := (hig_mem.1 hy).2
      exact cmpF_tr h1 (by rw [cmpF_anti]; omega)
theorem get_set {p q : S} {l : List α} {k : Option α} (h : Ris nm l) (hk : ∀ x, k = some x → nm x = p) : getK nm q (setK nm p k l) = if q = p then k else getK nm q l := by
  have hr := h.set hk
  split
  · rename_i e
    subst e
    cases k with
    | none =>
      rw [getK_none]
      intro x hx
      rcases set_mem.1 hx with h1 | h1
      · cases h1
      · exact h1.2
    | some x => exact getK_of hr (set_mem.2 (.inl rfl)) (hk x rfl)
  · rename_i e
    cases hg : getK nm q l with
    | none =>
      rw [getK_none] at hg ⊢
      intro x hx
      rcases set_mem.1 hx with h1 | h1
      · rw [hk x h1]; exact fun e' => e e'.symm
      · exact hg x h1.1
    | some x =>
      obtain ⟨h1, h2⟩ := getK_mem hg
      exact getK_of hr (set_mem.2 (.inr ⟨h1, by rw [h2]; exact e⟩)) h2
theorem set_len {p : S} {l : List α} {k : Option α} : (setK nm p k l).length ≤ l.length + 1 := by
  unfold setK
  rw [List.length_append, List.length_append]
  have h1 : (lowK nm p l).length + (higK nm p l).length ≤ l.length := by
    induction l with
    | nil => exact Nat.le_refl _
    | cons x l ih =>
      unfold lowK higK at ih ⊢
      rw [List.filter_cons, List.filter_cons]
      by_cases a : cmpF (nm x) p < 0
      · rw [if_pos (by simpa using a), if_neg (by simp; omega)]; simp only [List.length_cons]; omega
      · rw [if_neg (by simpa using a)]
        split <;> simp only [List.length_cons] <;> omega
  have : k.toList.length ≤ 1 := by cases k <;> simp
  omega
end
end Go.Proofs.YtihgnpboabpchaaGreatDoor
namespace Go.Proofs.YtihgnpboabpchaaGreatDoor
set_option linter.unusedSimpArgs false
set_option linter.unusedVariables false
set_option linter.unnecessarySimpa false
open Go Am
structure Kn where
  name : S
  rank : Nat
  data : S
structure Vw where
  gen : Int
  l : List Kn
structure Gs where
  kind : Int
  base : Vw
  now : Vw
  writes : List S
  names : List S
  dirs : List S
structure Md where
  v : Vw
  g : List Gs
  log : List Dn
structure Ac where
  who : Int
  kind : Int
  p : S
  q : S
  rank : Nat
  data : S
structure Rp where
  e : Int
  gen : Int
  rank : Nat
  data : S
  names : List S
abbrev nmK (k : Kn) : S := k.name
abbrev nmS (s : S) : S := s
def zV : Vw := ⟨0, []⟩
def zG : Gs := ⟨0, zV, zV, [], [], []⟩
def zR : Rp := ⟨0, 0, 0, [], []⟩
def errR (e : Int) : Rp := ⟨e, 0, 0, [], []⟩
def canonR (r : Nat) : Nat := if (FloatKind.f64.format.order r r != some .eq) = true then 9221120237041090561 else r
def insN (l : List S) (p : S) : List S := setK nmS p (some p) l
def setV (v : Vw) (p : S) (k : Option Kn) : Vw := ⟨v.gen, setK nmK p k v.l⟩
abbrev getV (v : Vw) (p : S) : Option Kn := getK nmK p v.l
def putG (g : Gs) (a : Ac) : Gs × Rp :=
  if chkN a.p ≠ 0 then (g, errR 1) else if 65536 < a.data.length then (g, errR 3)
  else ({ g with now := setV g.now a.p (some ⟨a.p, canonR a.rank, a.data⟩), writes := insN g.writes a.p }, zR)
def delG (g : Gs) (a : Ac) : Gs × Rp :=
  if chkN a.p ≠ 0 then (g, errR 1) else match getV g.now a.p with
  | none => ({ g with names := insN g.names a.p }, errR 4)
  | some _ => ({ g with names := insN g.names a.p, now := setV g.now a.p none, writes := insN g.writes a.p }, zR)
def movG (g : Gs) (a : Ac) : Gs × Rp :=
  if chkN a.p ≠ 0 ∨ chkN a.q ≠ 0 then (g, errR 1) else match getV g.now a.p with
  | none => ({ g with names := insN (insN g.names a.p) a.q }, errR 4)
  | some k => if a.p = a.q then ({ g with names := insN (insN g.names a.p) a.q }, zR)
    else if (getV g.now a.q).isSome = true then ({ g with names := insN (insN g.names a.p) a.q }, errR 5)
    else ({ g with names := insN (insN g.names a.p) a.q, now := setV (setV g.now a.p none) a.q (some { k with name := a.q }), writes := insN (insN g.writes a.p) a.q }, zR)
def lookG (g : Gs) (a : Ac) : Gs × Rp :=
  if chkN a.p ≠ 0 then (g, errR 1) else
    ((if g.kind = 1 then { g with names := insN g.names a.p } else g),
     match getV g.now a.p with
     | none => errR 4
     | some k => if a.kind = 7 then ⟨0, 0, k.rank, [], []⟩ else ⟨0, 0, k.rank, k.data, []⟩)
def listG (g : Gs) (a : Ac) : Gs × Rp :=
  if a.p ≠ [] ∧ chkN a.p ≠ 0 then (g, errR 1) else
    ((if g.kind = 1 then { g with dirs := insN g.dirs a.p } else g),
     ⟨0, 0, 0, [], (g.now.l.filter fun k => decide ((withinN a.p k.name).2 = 0) && (withinN a.p k.name).1).map nmK⟩)
def mergeV (v now : Vw) (w : List S) : Vw := ⟨v.gen + 1, w.foldl (fun l p => setK nmK p (getV now p) l) v.l⟩
def comG (v : Vw) (log : List Dn) (g : Gs) : Vw × List Dn × Rp :=
  if (clashR log g.base.gen g.names g.dirs).2 ≠ 0 then (v, log, errR (clashR log g.base.gen g.names g.dirs).2)
  else if g.writes = [] then (v, log, ⟨0, v.gen, 0, [], []⟩)
  else if (addR log (v.gen + 1) g.writes).2 ≠ 0 ∨ 256 < (mergeV v g.now g.writes).l.length then (v, log, errR 6)
  else (mergeV v g.now g.writes, (addR log (v.gen + 1) g.writes).1, ⟨0, v.gen + 1, 0, [], []⟩)
def snapK (k : Int) : Bool := decide (k = 6) || (decide (k = 7) || (decide (k = 8) || decide (k = 10)))
def actG (v : Vw) (log : List Dn) (g : Gs) (a : Ac) : Vw × List Dn × Gs × Rp :=
  if a.kind = 11 then (v, log, g, zR)
  else if a.kind = 1 ∨ a.kind = 2 then (if g.kind ≠ 0 then (v, log, g, errR 10) else (v, log, ⟨a.kind, v, v, [], [], []⟩, ⟨0, v.gen, 0, [], []⟩))
  else if g.kind = 0 ∨ (g.kind = 2 ∧ snapK a.kind = false) then (v, log, g, errR 10)
  else if a.kind = 3 then (v, log, (putG g a).1, (putG g a).2)
  else if a.kind = 4 then (v, log, (delG g a).1, (delG g a).2)
  else if a.kind = 5 then (v, log, (movG g a).1, (movG g a).2)
  else if a.kind = 9 then ((comG v log g).1, (comG v log g).2.1, zG, (comG v log g).2.2)
  else if a.kind = 6 ∨ a.kind = 7 then (v, log, (lookG g a).1, (lookG g a).2)
  else if a.kind = 8 then (v, log, (listG g a).1, (listG g a).2)
  else (v, log, zG, zR)
def okA (a : Ac) : Prop := 0 ≤ a.who ∧ a.who < 64 ∧ 1 ≤ a.kind ∧ a.kind ≤ 11
def gAt (m : Md) (i : Nat) : Gs := m.g.getD i zG
def doM (m : Md) (a : Ac) : Md × Rp :=
  let r := actG m.v m.log (gAt m a.who.toNat) a
  (⟨r.1, m.g.set a.who.toNat r.2.2.1, r.2.1⟩, r.2.2.2)
def newM : Md := ⟨⟨1, []⟩, List.replicate 64 zG, []⟩
structure VOK (U : List S) (v : Vw) : Prop where
  ris : Ris nmK v.l
  mem : ∀ x ∈ v.l, x.name ∈ U ∧ chkN x.name = 0 ∧ x.data.length ≤ 65536
  gen : 1 ≤ v.gen
structure NOK (U : List S) (l : List S) : Prop where
  ris : Ris nmS l
  mem : ∀ x ∈ l, x ∈ U ∧ chkN x = 0
structure DOK (U : List S) (l : List S) : Prop where
  ris : Ris nmS l
  mem : ∀ x ∈ l, x ∈ U ∧ (x = [] ∨ chkN x = 0)
structure GOK' (U : List S) (vg : Int) (g : Gs) : Prop where
  kind : g.kind = 1 ∨ g.kind = 2
  base : VOK U g.base
  now : VOK U g.now
  gen : g.now.gen = g.base.gen
  gen2 : g.base.gen ≤ vg
  writes : NOK U g.writes
  names : NOK U g.names
  dirs : DOK U g.dirs
  snap : g.kind = 2 → g.writes = [] ∧ g.now = g.base
  wrote : ∀ p, getV g.base p ≠ getV g.now p → p ∈ g.writes
def GOK (U : List S) (vg : Int) (g : Gs) : Prop := g = zG ∨ GOK' U vg g
structure OKM (U : List S) (k : Nat) (m : Md) : Prop where
  v : VOK U m.v
  gs : m.g.length = 64
  g : ∀ g ∈ m.g, GOK U m.v.gen g
  log : checkX m.log = 0
  len : m.log.length ≤ k
  gen : m.v.gen = m.log.length + 1
  late : ∀ d ∈ m.log, d.gen ≤ m.v.gen
theorem VOK.mono {U U' : List S} (h : ∀ x ∈ U, x ∈ U') {v : Vw} (o : VOK U v) : VOK U' v := ⟨o.ris, fun x hx => ⟨h _ (o.mem x hx).1, (o.mem x hx).2⟩, o.gen⟩
theorem NOK.mono {U U' : List S} (h : ∀ x ∈ U, x ∈ U') {v : List S} (o : NOK U v) : NOK U' v := ⟨o.ris, fun x hx => ⟨h _ (o.mem x hx).1, (o.mem x hx).2⟩⟩
theorem DOK.mono {U U' : List S} (h : ∀ x ∈ U, x ∈ U') {v : List S} (o : DOK U v) : DOK U' v := ⟨o.ris, fun x hx => ⟨h _ (o.mem x hx).1, (o.mem x hx).2⟩⟩
theorem GOK.mono {U U' : List S} (h : ∀ x ∈ U, x ∈ U') {vg vg' : Int} (hv : vg ≤ vg') {g : Gs} (o : GOK U vg g) : GOK U' vg' g := by
  rcases o with o | o
  · exact .inl o
  · exact .inr ⟨o.kind, o.base.mono h, o.now.mono h, o.gen, Int.le_trans o.gen2 hv, o.writes.mono h, o.names.mono h, o.dirs.mono h, o.snap, o.wrote⟩
theorem len_sub {α : Type} [DecidableEq α] : ∀ {l U : List α}, l.Nodup → (∀ x ∈ l, x ∈ U) → l.length ≤ U.length
  | [], _, _, _ => Nat.zero_le _
  | x :: l, U, hn, hs => by
    have h1 := List.nodup_cons.1 hn
    have hx : x ∈ U := hs x List.mem_cons_self
    have ih := len_sub (U := U.erase x) h1.2 (fun y hy => (List.mem_erase_of_ne (fun e => h1.1 (by rw [← e]; exact hy))).2 (hs y (List.mem_cons_of_mem _ hy)))
    rw [List.length_erase_of_mem hx] at ih
    have := List.length_pos_of_mem hx
    rw [List.length_cons]; omega
theorem Ris.nodup {l : List S} (h : Ris nmS l) : l.Nodup := h.imp (fun {a b} hab e => by rw [cmpF_eq.2 e] at hab; omega)
theorem Ris.nodupK {l : List Kn} (h : Ris nmK l) : (l.map nmK).Nodup := by
  refine List.pairwise_map.2 (h.imp (fun {a b} hab e => ?_))
  have : cmpF (nmK a) (nmK b) = 0 := cmpF_eq.2 e
  omega
theorem VOK.len {U : List S} {v : Vw} (o : VOK U v) : v.l.length ≤ U.length := by
  have := len_sub o.ris.nodupK (U := U) (fun x hx => by obtain ⟨k, hk, rfl⟩ := List.mem_map.1 hx; exact (o.mem k hk).1)
  rwa [List.length_map] at this
theorem NOK.len {U l : List S} (o : NOK U l) : l.length ≤ U.length := len_sub o.ris.nodup (fun x hx => (o.mem x hx).1)
theorem DOK.len {U l : List S} (o : DOK U l) : l.length ≤ U.length := len_sub o.ris.nodup (fun x hx => (o.mem x hx).1)
theorem chk_ne {p : S} (h : chkN p = 0) : p ≠ [] := fun e => by subst e; exact absurd h (by decide)
theorem rise_of : ∀ {l : List S} {q : Option S}, Ris nmS l → (∀ x ∈ l, chkN x = 0) → (∀ a, q = some a → chkN a = 0 ∧ ∀ x ∈ l, cmpF a x < 0) → riseF q l = true
  | [], q, _, _, _ => by cases q <;> rfl
  | p :: ps, q, h, hc, hq => by
    obtain ⟨h1, h2⟩ := Ris.cons.1 h
    have hp := hc p List.mem_cons_self
    have ih := rise_of (q := some p) h2 (fun x hx => hc x (List.mem_cons_of_mem _ hx)) (fun a ha => by injection ha with ha; subst ha; exact ⟨hp, h1⟩)
    unfold riseF
    rw [ih, hp]
    cases q with
    | none => rfl
    | some a =>
      obtain ⟨ha, hlt⟩ := hq a rfl
      have h3 := hlt p List.mem_cons_self
      rw [cmpF_clean (chk_ne ha) (chk_ne hp)] at h3
      have e : cmpN a p = (cK a p, 0) := cmpN_ok (chkN_zero.1 ha) (chkN_zero.1 hp)
      simp only [e, decide_true, decide_eq_true h3, Bool.and_self]
theorem NOK.rise {U l : List S} (o : NOK U l) : riseF none l = true := rise_of o.ris (fun x hx => (o.mem x hx).2) (fun a ha => by cases ha)
theorem NOK.rises {U l : List S} (o : NOK U l) {n : Nat} (h : U.length ≤ n) : risesX l n = true := by
  unfold risesX
  rw [o.rise, decide_eq_true (Nat.le_trans o.len h)]; rfl
theorem DOK.rises {U l : List S} (o : DOK U l) {n : Nat} (h : U.length ≤ n) : risesX (dirsX l) n = true := by
  have hl := o.len
  match l, o with
  | [], _ => unfold risesX; simp [dirsX, riseF]
  | [] :: ds, o =>
    have h1 := Ris.cons.1 o.ris
    have o2 : NOK U ds := ⟨h1.2, fun x hx => ⟨(o.mem x (List.mem_cons_of_mem _ hx)).1, by
      rcases (o.mem x (List.mem_cons_of_mem _ hx)).2 with e | e
      · have := h1.1 x hx; rw [show nmS ([] : S) = nmS x from e.symm, cmpF_eq.2 rfl] at this; omega
      · exact e⟩⟩
    exact o2.rises h
  | (c :: cs) :: ds, o =>
    have h1 := Ris.cons.1 o.ris
    have o2 : NOK U ((c :: cs) :: ds) := ⟨o.ris, fun x hx => ⟨(o.mem x hx).1, by
      rcases (o.mem x hx).2 with e | e
      · subst e
        rcases List.mem_cons.1 hx with e2 | hx
        · cases e2
        · have := h1.1 [] hx
          have h2 : cmpF [] (c :: cs) = -1 := by unfold cmpF; rw [if_neg (by simp), if_pos rfl]
          have h3 := cmpF_anti [] (c :: cs)
          simp only [nmS] at this
          omega
      · exact e⟩⟩
    exact o2.rises h
theorem may_of {U rn rd : List S} (o : NOK U rn) (o2 : DOK U rd) (h : U.length ≤ 1024) : mayX rn rd = 0 := mayX_iff.2 ⟨Nat.le_trans o2.len h, o.rises h, o2.rises h⟩
theorem NOK.ins {U l : List S} (o : NOK U l) {p : S} (hu : p ∈ U) (hc : chkN p = 0) : NOK U (insN l p) :=
  ⟨o.ris.set (fun x hx => by injection hx with hx; exact hx.symm), fun x hx => by
    rcases set_mem.1 hx with e | e
    · injection e with e; subst e; exact ⟨hu, hc⟩
    · exact o.mem x e.1⟩
theorem DOK.ins {U l : List S} (o : DOK U l) {p : S} (hu : p ∈ U) (hc : p = [] ∨ chkN p = 0) : DOK U (insN l p) :=
  ⟨o.ris.set (fun x hx => by injection hx with hx; exact hx.symm), fun x hx => by
    rcases set_mem.1 hx with e | e
    · injection e with e; subst e; exact ⟨hu, hc⟩
    · exact o.mem x e.1⟩
theorem ins_mem {l : List S} {p x : S} : x ∈ insN l p ↔ x = p ∨ x ∈ l := by
  unfold insN
  rw [set_mem]
  constructor
  · rintro (e | e)
    · injection e with e; exact .inl e.symm
    · exact .inr e.1
  · rintro (e | e)
    · exact .inl (by rw [e])
    · by_cases h : x = p
      · exact .inl (by rw [h])
      · exact .inr ⟨e, h⟩
theorem VOK.set {U : List S} {v : Vw} (o : VOK U v) {p : S} {k : Option Kn} (hk : ∀ x, k = some x → x.name = p ∧ x.data.length ≤ 65536) (hu : p ∈ U) (hc : chkN p = 0) : VOK U (setV v p k) :=
  ⟨o.ris.set (fun x hx => (hk x hx).1), fun x hx => by
    rcases set_mem.1 hx with e | e
    · obtain ⟨h1, h2⟩ := hk x e; rw [h1]; exact ⟨hu, hc, h2⟩
    · exact o.mem x e.1, o.gen⟩
theorem getV_set {U : List S} {v : Vw} (o : VOK U v) {p q : S} {k : Option Kn} (hk : ∀ x, k = some x → x.name = p) : getV (setV v p k) q = if q = p then k else getV v q := get_set o.ris hk
theorem merge_ok {U : List S} {now : Vw} (hn : VOK U now) : ∀ {w : List S} {l : List Kn}, (∀ p ∈ w, p ∈ U ∧ chkN p = 0) → VOK U ⟨1, l⟩ → VOK U ⟨1, w.foldl (fun l p => setK nmK p (getV now p) l) l⟩
  | [], _, _, h => h
  | p :: w, l, hw, h => by
    refine merge_ok hn (w := w) (l := setK nmK p (getV now p) l) (fun q hq => hw q (List.mem_cons_of_mem _ hq)) ?_
    obtain ⟨h1, h2⟩ := hw p List.mem_cons_self
    exact h.set (v := ⟨1, l⟩) (p := p) (fun x hx => ⟨(getK_mem hx).2, (hn.mem x (getK_mem hx).1).2.2⟩) h1 h2
theorem late_last {log : List Dn} {g : Int} (h : ∀ d ∈ log, d.gen ≤ g) (h0 : 0 ≤ g) : lastG log ≤ g := by
  unfold lastG
  cases hl : log.getLast? with
  | none => exact h0
  | some d => exact h d (List.mem_of_getLast? hl)
theorem add_ok {U : List S} {log : List Dn} {w : List S} {g : Int} (hc : checkX log = 0) (hl : log.length < 1024) (hg : ∀ d ∈ log, d.gen ≤ g) (h0 : 0 ≤ g) (h1 : g + 1 ≤ 1099511627776) (hw : NOK U w) (hU : U.length ≤ 256) : addR log (g + 1) w = (log ++ [⟨g + 1, w⟩], 0) := by
  have h2 := late_last hg h0
  have h3 : checkX [(⟨g + 1, w⟩ : Dn)] = 0 := checkX_zero.2 ⟨by simp, by
    rw [ckF_cons, hw.rises hU, decide_eq_true (show (0 : Int) < g + 1 by omega), decide_eq_true (show g + 1 ≤ 1099511627776 from h1)]; rfl⟩
  unfold addR
  rw [if_neg (by simp only [not_or, not_and]; exact ⟨fun e => e hc, fun e => e h3, fun _ => by show ¬ g + 1 ≤ lastG log; omega⟩), if_neg (by omega)]
structure WOK (U : List S) (k : Nat) (v : Vw) (log : List Dn) : Prop where
  vw : VOK U v
  chk : checkX log = 0
  len : log.length ≤ k
  gen : v.gen = log.length + 1
  late : ∀ d ∈ log, d.gen ≤ v.gen
theorem WOK.more {U : List S} {k : Nat} {v : Vw} {log : List Dn} (w : WOK U k v log) : WOK U (k + 1) v log := ⟨w.vw, w.chk, by have := w.len; omega, w.gen, w.late⟩
theorem put_ok' {U : List S} {vg : Int} {g : Gs} {a : Ac} (o : GOK' U vg g) (hs : g.kind ≠ 2) (hp : a.p ∈ U) : GOK' U vg (putG g a).1 := by
  unfold putG
  split
  · exact o
  · rename_i h1
    split
    · exact o
    · rename_i h2
      have h1 : chkN a.p = 0 := by simpa using h1
      refine ⟨o.kind, o.base, o.now.set (fun x hx => by injection hx with hx; subst hx; exact ⟨rfl, by simpa using h2⟩) hp h1, o.gen, o.gen2, o.writes.ins hp h1, o.names, o.dirs, fun e => absurd e hs, fun q hq => ?_⟩
      simp only at hq ⊢
      rw [getV_set o.now (fun x hx => by injection hx with hx; subst hx; rfl)] at hq
      split at hq
      · rename_i e; exact ins_mem.2 (.inl e)
      · exact ins_mem.2 (.inr (o.wrote q hq))
theorem del_ok' {U : List S} {vg : Int} {g : Gs} {a : Ac} (o : GOK' U vg g) (hs : g.kind ≠ 2) (hp : a.p ∈ U) : GOK' U vg (delG g a).1 := by
  unfold delG
  split
  · exact o
  · rename_i h1
    have h1 : chkN a.p = 0 := by simpa using h1
    split
    · exact ⟨o.kind, o.base, o.now, o.gen, o.gen2, o.writes, o.names.ins hp h1, o.dirs, o.snap, o.wrote⟩
    · refine ⟨o.kind, o.base, o.now.set (fun x hx => by cases hx) hp h1, o.gen, o.gen2, o.writes.ins hp h1, o.names.ins hp h1, o.dirs, fun e => absurd e hs, fun q hq => ?_⟩
      simp only at hq ⊢
      rw [getV_set o.now (fun x hx => by cases hx)] at hq
      split at hq
      · rename_i e; exact ins_mem.2 (.inl e)
      · exact ins_mem.2 (.inr (o.wrote q hq))
theorem mov_ok' {U : List S} {vg : Int} {g : Gs} {a : Ac} (o : GOK' U vg g) (hs : g.kind ≠ 2) (hp : a.p ∈ U) (hq0 : a.q ∈ U) : GOK' U vg (movG g a).1 := by
  unfold movG
  split
  · exact o
  · rename_i h1
    obtain ⟨h1, h2⟩ : chkN a.p = 0 ∧ chkN a.q = 0 := by simpa using h1
    have on := (o.names.ins hp h1).ins hq0 h2
    split
    · exact ⟨o.kind, o.base, o.now, o.gen, o.gen2, o.writes, on, o.dirs, o.snap, o.wrote⟩
    · rename_i k hk
      split
      · exact ⟨o.kind, o.base, o.now, o.gen, o.gen2, o.writes, on, o.dirs, o.snap, o.wrote⟩
      · split
        · exact ⟨o.kind, o.base, o.now, o.gen, o.gen2, o.writes, on, o.dirs, o.snap, o.wrote⟩
        · have h3 := o.now.set (p := a.p) (k := none) (fun x hx => by cases hx) hp h1
          have hkd := (o.now.mem k (getK_mem hk).1).2.2
          refine ⟨o.kind, o.base, h3.set (fun x hx => by injection hx with hx; subst hx; exact ⟨rfl, hkd⟩) hq0 h2, o.gen, o.gen2, (o.writes.ins hp h1).ins hq0 h2, on, o.dirs, fun e => absurd e hs, fun q hq => ?_⟩
          simp only at hq ⊢
          rw [getV_set h3 (fun x hx => by injection hx with hx; subst hx; rfl), getV_set o.now (fun x hx => by cases hx)] at hq
          split at hq
          · rename_i e; exact ins_mem.2 (.inl e)
          · split at hq
            · rename_i e; exact ins_mem.2 (.inr (ins_mem.2 (.inl e)))
            · exact ins_mem.2 (.inr (ins_mem.2 (.inr (o.wrote q hq))))
theorem look_ok' {U : List S} {vg : Int} {g : Gs} {a : Ac} (o : GOK' U vg g) (hp : a.p ∈ U) : GOK' U vg (lookG g a).1 := by
  unfold lookG
  split
  · exact o
  · rename_i h1
    have h1 : chkN a.p = 0 := by simpa using h1
    simp only
    split
    · exact ⟨o.kind, o.base, o.now, o.gen, o.gen2, o.writes, o.names.ins hp h1, o.dirs, o.snap, o.wrote⟩
    · exact o
theorem list_ok' {U : List S} {vg : Int} {g : Gs} {a : Ac} (o : GOK' U vg g) (hp : a.p ∈ U) : GOK' U vg (listG g a).1 := by
  unfold listG
  split
  · exact o
  · rename_i h1
    have h1 : a.p = [] ∨ chkN a.p = 0 := by
      by_cases e : a.p = []
      · exact .inl e
      · exact .inr (by simpa [e] using h1)
    simp only
    split
    · exact ⟨o.kind, o.base, o.now, o.gen, o.gen2, o.writes, o.names, o.dirs.ins hp h1, o.snap, o.wrote⟩
    · exact o
theorem com_ok' {U : List S} {k : Nat} {v : Vw} {log : List Dn} {g : Gs} (w : WOK U k v log) (o : GOK' U v.gen g) (hU : U.length ≤ 256) (hk : k < 1024) : WOK U (k + 1) (comG v log g).1 (comG v log g).2.1 ∧ v.gen ≤ (comG v log g).1.gen := by
  unfold comG
  split
  · exact ⟨w.more, Int.le_refl _⟩
  · split
    · exact ⟨w.more, Int.le_refl _⟩
    · split
      · exact ⟨w.more, Int.le_refl _⟩
      · have hge := w.gen
        have hle := w.len
        have ha := add_ok w.chk (by omega) w.late (by omega) (by omega) o.writes hU
        obtain ⟨_, _, h3, _⟩ := addR_ok ha
        rw [ha]
        have hm := merge_ok o.now (w := g.writes) (l := v.l) o.writes.mem ⟨w.vw.ris, w.vw.mem, Int.le_refl _⟩
        refine ⟨⟨⟨hm.ris, hm.mem, by show 1 ≤ v.gen + 1; omega⟩, h3, by simp; omega, by simp [mergeV]; omega, fun d hd => ?_⟩, by show v.gen ≤ v.gen + 1; omega⟩
        rcases List.mem_append.1 hd with hd | hd
        · have := w.late d hd; show d.gen ≤ v.gen + 1; omega
        · rw [List.mem_singleton.1 hd]; exact Int.le_refl _
theorem act_ok {U : List S} {k : Nat} {v : Vw} {log : List Dn} {g : Gs} {a : Ac} (w : WOK U k v log) (o : GOK U v.gen g) (hp : a.p ∈ U) (hq : a.q ∈ U) (hU : U.length ≤ 256) (hk : k < 1024) :
    WOK U (k + 1) (actG v log g a).1 (actG v log g a).2.1 ∧ GOK U (actG v log g a).1.gen (actG v log g a).2.2.1 ∧ v.gen ≤ (actG v log g a).1.gen := by
  have same : ∀ g', GOK U v.gen g' → WOK U (k + 1) v log ∧ GOK U v.gen g' ∧ v.gen ≤ v.gen := fun g' h => ⟨w.more, h, Int.le_refl _⟩
  unfold actG
  split
  · exact same _ o
  · split
    · rename_i hkind
      split
      · exact same _ o
      · exact same _ (.inr ⟨hkind, w.vw, w.vw, rfl, Int.le_refl _, ⟨Ris.nil, fun _ h => by cases h⟩, ⟨Ris.nil, fun _ h => by cases h⟩, ⟨Ris.nil, fun _ h => by cases h⟩, fun _ => ⟨rfl, rfl⟩, fun p h => absurd rfl h⟩)
    · split
      · exact same _ o
      · rename_i h1 h2 h3
        have o' : GOK' U v.gen g := by
          rcases o with o | o
          · subst o; exact absurd (.inl rfl) h3
          · exact o
        have hs : snapK a.kind = false → g.kind ≠ 2 := fun e e2 => h3 (.inr ⟨e2, e⟩)
        split
        · rename_i e; exact same _ (.inr (put_ok' o' (hs (by rw [e]; rfl)) hp))
        · split
          · rename_i e; exact same _ (.inr (del_ok' o' (hs (by rw [e]; rfl)) hp))
          · split
            · rename_i e; exact same _ (.inr (mov_ok' o' (hs (by rw [e]; rfl)) hp hq))
            · split
              · obtain ⟨q1, q2⟩ := com_ok' w o' hU hk
                exact ⟨q1, .inl rfl, q2⟩
              · split
                · exact same _ (.inr (look_ok' o' hp))
                · split
                  · exact same _ (.inr (list_ok' o' hp))
                  · exact same _ (.inl rfl)
theorem gAt_mem {m : Md} {i : Nat} (h : i < m.g.length) : gAt m i ∈ m.g := by unfold gAt; rw [List.getD_eq_getElem?_getD, List.getElem?_eq_getElem h]; exact List.getElem_mem h
theorem OKM.wok {U : List S} {k : Nat} {m : Md} (o : OKM U k m) : WOK U k m.v m.log := ⟨o.v, o.log, o.len, o.gen, o.late⟩
theorem OKM.mono {U U' : List S} {k : Nat} {m : Md} (h : ∀ x ∈ U, x ∈ U') (o : OKM U k m) : OKM U' k m := ⟨o.v.mono h, o.gs, fun g hg => (o.g g hg).mono h (Int.le_refl _), o.log, o.len, o.gen, o.late⟩
theorem do_ok {U : List S} {k : Nat} {m : Md} {a : Ac} (o : OKM U k m) (ha : okA a) (hp : a.p ∈ U) (hq : a.q ∈ U) (hU : U.length ≤ 256) (hk : k < 1024) : OKM U (k + 1) (doM m a).1 := by
  have hw : a.who.toNat < m.g.length := by rw [o.gs]; obtain ⟨h1, h2, _⟩ := ha; omega
  obtain ⟨w, hg, hv⟩ := act_ok o.wok (o.g _ (gAt_mem hw)) hp hq hU hk
  refine ⟨w.vw, by show (m.g.set _ _).length = 64; rw [List.length_set]; exact o.gs, fun g hgm => ?_, w.chk, w.len, w.gen, w.late⟩
  rcases List.mem_or_eq_of_mem_set hgm with h | h
  · exact (o.g g h).mono (fun _ h => h) hv
  · rw [h]; exact hg
theorem new_ok (U : List S) : OKM U 0 newM := by
  refine ⟨⟨Ris.nil, fun _ h => (by cases h), Int.le_refl _⟩, rfl, fun g hg => .inl (List.eq_of_mem_replicate hg), rfl, Nat.le_refl _, rfl, fun _ h => (by cases h)⟩
end Go.Proofs.YtihgnpboabpchaaGreatDoor
namespace Go.Proofs.YtihgnpboabpchaaGreatDoor
set_option linter.unusedSimpArgs false
set_option linter.unusedVariables false
set_option linter.unnecessarySimpa false
open Go Am
def RowAt (h : Heap) (id ver cap sz : Nat) (es : List (List PD)) : Prop := ∃ T, h id = some (rowB ver es T) ∧ es.length * sz + T.length = cap * sz ∧ lowCs 0 T = true
theorem RowAt.cut {h : Heap} {id ver cap sz k : Nat} {es : List (List PD)} (r : RowAt h id ver cap sz es) (hm : id < k) : RowAt (cutH k h) id ver cap sz es := by
  obtain ⟨T, h1, h2, h3⟩ := r
  exact ⟨T, cutH_same hm h1 (lowCs_app (lowCs_p _ _) (lowCs_mono (Nat.zero_le _) h3)), h2, h3⟩
theorem RowAt.ne {h : Heap} {id ver cap sz i : Nat} {es : List (List PD)} {blk : Blk} (r : RowAt h id ver cap sz es) (hi : id ≠ i) : RowAt (upd h i blk) id ver cap sz es := by
  obtain ⟨T, h1, h2, h3⟩ := r
  exact ⟨T, by rw [upd_ne _ _ _ _ hi]; exact h1, h2, h3⟩
theorem RowAt.del {h : Heap} {id ver cap sz i : Nat} {es : List (List PD)} (r : RowAt h id ver cap sz es) (hi : id ≠ i) : RowAt (delH h i) id ver cap sz es := by
  obtain ⟨T, h1, h2, h3⟩ := r
  exact ⟨T, by unfold delH; rw [if_neg hi]; exact h1, h2, h3⟩
theorem RowAt.new {h : Heap} {id ver cap sz : Nat} {es : List (List PD)} {T : List Cell} (h2 : es.length * sz + T.length = cap * sz) (h3 : lowCs 0 T = true) : RowAt (upd h id (rowB ver es T)) id ver cap sz es := ⟨T, upd_same _ _ _, h2, h3⟩
theorem RowAt.nil {h : Heap} {id sz : Nat} : RowAt (upd h id ⟨0, []⟩) id 0 0 sz [] := ⟨[], upd_same _ _ _, by simp, rfl⟩
theorem RowAt.low {h : Heap} {id ver cap sz : Nat} {es : List (List PD)} (r : RowAt h id ver cap sz es) : ∃ blk, h id = some blk ∧ blk.ver = ver ∧ lowCs 0 blk.cells = true := by
  obtain ⟨T, h1, h2, h3⟩ := r
  exact ⟨_, h1, rfl, lowCs_app (lowCs_p _ _) h3⟩
theorem AWP.frzRow {P : Program} {C : Ctx} {Q : Exit → St → Prop} {c : Code} {t : Nat → AV} {h : Heap} {n : Nat} (i : Nat) {id ver len cap sz : Nat} {es : List (List PD)} (e : t i = .one (.win id ver 0 len cap)) (r : RowAt h id ver cap sz es) (ho : okEs sz es) (hl : es.length = len)
    (k : AWP P C c Q ⟨updT t i (.one (.p (.sl sz es))), delH h id, n⟩) : AWP P C c Q ⟨t, h, n⟩ := by
  obtain ⟨T, h1, h2, h3⟩ := r
  exact AWP.frz i (cap := cap) (len := len) (off := 0) (id := id) sz es e h1 rfl hl ho.len (row_cells ho ver T) k
theorem sub_at {h : Heap} {id ver : Nat} {L : List Cell} (L2 : List Cell) (hb : h id = some ⟨ver, L⟩) : Am.Sub (ers h id) (upd h id ⟨ver, L2⟩) := (sub_ers _ _).upd (fun c e => by
  rw [ers_lit, if_pos rfl, hb] at e
  injection e with e
  subst e; exact ⟨rfl, rfl⟩)
theorem cutH_outS {b x : Nat} {h h0 : Heap} (hl : ∀ id blk, h0 id = some blk → ∀ c ∈ blk.cells, lowC b c = true) (e : h x = h0 x) (hx : x < b) : cutH (b + 0) h x = h0 x := by
  cases h1 : h0 x with
  | none => unfold cutH; rw [if_pos (by omega), e, h1]; rfl
  | some blk => exact cutH_same (by omega) (e.trans h1) (lowCs_of fun c hc => hl x blk h1 c hc)
theorem frz_tup0 (h : Heap) (b : Nat) : frzV h b (.tup []) (.tup []) := .tup rfl (fun i c d hc => by simp at hc)
theorem upd_all {b id : Nat} {hh h : Heap} {blk : Blk} (hb : hh id = some blk) (ho : ∀ k, k < b → k ≠ id → hh k = h k) : ∀ k, k < b → hh k = upd h id blk k := fun k hk => by
  by_cases e : k = id
  · subst e; rw [upd_same, hb]
  · rw [upd_ne _ _ _ _ e]; exact ho k hk e
namespace Am
theorem AWP.rgS (S : List Tmp) (V : List AV) {P : Program} {C : Ctx} {Q : Exit → St → Prop} {s : St} {id : Nat} {ops : Array Oper} (hS : Heap) (hsub : Sub hS s.h) (hm : P.follows .mixedOrders = true) (hB : drawB S ops = true) (hN : dstsB C.N ops.toList = true)
    (e : ∀ K : FinT, (∀ t h n, Q .normal ⟨t, h, n⟩ → K t h n) → evD P C S V hS #[] ops.toList s.t s.h s.n K) (hg : (ops.all fun o => o.guard.isNone) = true) (hr : C.x.rd = none := by rfl) : AWP P C (.region id ops true) Q s := by
  refine AWP.regionD (V := V) hm hB hN hsub ?_ hr
  have hsame : ∀ (l : List Oper) (t : Nat → AV) (h : Heap) (n : Nat) (K : FinT), (∀ o ∈ l, o.guard = none) → evD P C S V hS #[] l t h n K → evD P C S V hS ops l t h n K := by
    intro l
    induction l with
    | nil => intro t h n K _ e; exact e
    | cons o l ih =>
      intro t h n K hgl e
      have hgo : o.guard = none := hgl o (by simp)
      have hw : ∀ (os : Array Oper) t, wantD os t o = some true := by intro os t; unfold wantD; rw [hgo]
      unfold evD at e ⊢
      split at e
      · rename_i hs
        rw [if_pos hs]
        obtain ⟨v, hv, ok, e⟩ := e
        refine ⟨v, ?_, ?_, ih _ _ _ _ (fun o ho => hgl o (by simp [ho])) e⟩
        · unfold valD at hv ⊢
          rw [hw] at hv ⊢
          exact hv
        · unfold okD at ok ⊢
          rw [hw] at ok ⊢
          exact ok
      · rename_i hs
        rw [if_neg hs]
        unfold sigD at e ⊢
        rw [hw] at e ⊢
        exact aop_mono (fun v h' n' ⟨s, e⟩ => ⟨s, ih _ _ _ _ (fun o ho => hgl o (by simp [ho])) e⟩) e
  refine hsame _ _ _ _ _ (fun o ho => ?_) (e _ (fun t h n k => k))
  have := Array.all_eq_true_iff_forall_mem.1 hg o (by simpa using ho)
  simpa using this
theorem AWP.seqRegS (S : List Tmp) (V : List AV) {P : Program} {C : Ctx} {Q : Exit → St → Prop} {s : St} {id : Nat} {ops : Array Oper} {y : Code} (hS : Heap) (hsub : Sub hS s.h) (hm : P.follows .mixedOrders = true) (hB : drawB S ops = true) (hN : dstsB C.N ops.toList = true)
    (e : ∀ K : FinT, (∀ t h n, AWP P C y Q ⟨t, h, n⟩ → K t h n) → evD P C S V hS #[] ops.toList s.t s.h s.n K) (hg : (ops.all fun o => o.guard.isNone) = true) (hr : C.x.rd = none := by rfl) : AWP P C (.seq (.region id ops true) y) Q s := by
  refine .seq (AWP.regionD (V := V) hm hB hN hsub ?_ hr)
  have hsame : ∀ (l : List Oper) (t : Nat → AV) (h : Heap) (n : Nat) (K : FinT), (∀ o ∈ l, o.guard = none) → evD P C S V hS #[] l t h n K → evD P C S V hS ops l t h n K := by
    intro l
    induction l with
    | nil => intro t h n K _ e; exact e
    | cons o l ih =>
      intro t h n K hgl e
      have hgo : o.guard = none := hgl o (by simp)
      have hw : ∀ (os : Array Oper) t, wantD os t o = some true := by intro os t; unfold wantD; rw [hgo]
      unfold evD at e ⊢
      split at e
      · rename_i hs
        rw [if_pos hs]
        obtain ⟨v, hv, ok, e⟩ := e
        refine ⟨v, ?_, ?_, ih _ _ _ _ (fun o ho => hgl o (by simp [ho])) e⟩
        · unfold valD at hv ⊢
          rw [hw] at hv ⊢
          exact hv
        · unfold okD at ok ⊢
          rw [hw] at ok ⊢
          exact ok
      · rename_i hs
        rw [if_neg hs]
        unfold sigD at e ⊢
        rw [hw] at e ⊢
        exact aop_mono (fun v h' n' ⟨s, e⟩ => ⟨s, ih _ _ _ _ (fun o ho => hgl o (by simp [ho])) e⟩) e
  refine hsame _ _ _ _ _ (fun o ho => ?_) (e _ (fun t h n k => k))
  have := Array.all_eq_true_iff_forall_mem.1 hg o (by simpa using ho)
  simpa using this
end Am
end Go.Proofs.YtihgnpboabpchaaGreatDoor
namespace Go.Proofs.YtihgnpboabpchaaGreatDoor
set_option linter.unusedSimpArgs false
set_option linter.unusedVariables false
set_option linter.unnecessarySimpa false
open Go Am
theorem ptr_kn : isPtrT Tryz.prog 226 = true := by kernel_rfl
attribute [go_sem] ptr_kn
abbrev encO (c : UInt8) : List PD := [.v (.int .u8 c.toNat)]
abbrev OctV (s : S) : AV := .one (.p (.sl 1 (s.map encO)))
theorem okEs_oct (l : S) : okEs 1 (l.map encO) := fun e he => by
  obtain ⟨x, _, rfl⟩ := List.mem_map.1 he
  refine ⟨rfl, fun d hd => ?_⟩
  simp at hd
  subst hd; rfl
abbrev encK (k : Kn) : List PD := [.v (.string (mkS k.name)), .v (.float .f64 k.rank), .sl 1 (k.data.map encO)]
abbrev KnV (k : Kn) : AV := .agg ((encK k).map .p)
abbrev KnsV (l : List Kn) : AV := .one (.p (.sl 3 (l.map encK)))
theorem okEs_kn (l : List Kn) : okEs 3 (l.map encK) := fun e he => by
  obtain ⟨x, _, rfl⟩ := List.mem_map.1 he
  refine ⟨rfl, fun d hd => ?_⟩
  simp at hd
  rcases hd with rfl | rfl | rfl <;> rfl
abbrev encV (v : Vw) : List PD := [.v (.int .u64 v.gen), .sl 3 (v.l.map encK)]
abbrev VwV (v : Vw) : AV := .agg ((encV v).map .p)
abbrev encG (g : Gs) : List PD := [.v (.int .i64 g.kind), .v (.int .u64 g.base.gen), .sl 3 (g.base.l.map encK), .v (.int .u64 g.now.gen), .sl 3 (g.now.l.map encK), .sl 1 (g.writes.map encS), .sl 1 (g.names.map encS), .sl 1 (g.dirs.map encS)]
abbrev GsV (g : Gs) : AV := .agg ((encG g).map .p)
theorem okEs_gs (l : List Gs) : okEs 8 (l.map encG) := fun e he => by
  obtain ⟨x, _, rfl⟩ := List.mem_map.1 he
  refine ⟨rfl, fun d hd => ?_⟩
  simp at hd
  rcases hd with rfl | rfl | rfl | rfl | rfl | rfl | rfl | rfl <;> rfl
abbrev encM (m : Md) : List PD := [.v (.int .u64 m.v.gen), .sl 3 (m.v.l.map encK), .sl 8 (m.g.map encG), .sl 2 (m.log.map encD)]
abbrev MdV (m : Md) : AV := .agg ((encM m).map .p)
abbrev encA (a : Ac) : List PD := [.v (.int .i64 a.who), .v (.int .i64 a.kind), .v (.string (mkS a.p)), .v (.string (mkS a.q)), .v (.float .f64 a.rank), .sl 1 (a.data.map encO)]
abbrev AcV (a : Ac) : AV := .agg ((encA a).map .p)
abbrev encR (r : Rp) : List PD := [.v (.int .i64 r.e), .v (.int .u64 r.gen), .v (.float .f64 r.rank), .sl 1 (r.data.map encO), .sl 1 (r.names.map encS)]
abbrev RpV (r : Rp) : AV := .agg ((encR r).map .p)
abbrev RpsV (l : List Rp) : AV := .one (.p (.sl 5 (l.map encR)))
abbrev AcsV (l : List Ac) : AV := .one (.p (.sl 6 (l.map encA)))
theorem okEs_rp (l : List Rp) : okEs 5 (l.map encR) := fun e he => by
  obtain ⟨x, _, rfl⟩ := List.mem_map.1 he
  refine ⟨rfl, fun d hd => ?_⟩
  simp at hd
  rcases hd with rfl | rfl | rfl | rfl | rfl <;> rfl
theorem okEs_ac (l : List Ac) : okEs 6 (l.map encA) := fun e he => by
  obtain ⟨x, _, rfl⟩ := List.mem_map.1 he
  refine ⟨rfl, fun d hd => ?_⟩
  simp at hd
  rcases hd with rfl | rfl | rfl | rfl | rfl | rfl <;> rfl
theorem encK_getD (l : List Kn) (i : Nat) (h : i < l.length) : (l.map encK).getD i [] = encK l[i] := by simp [List.getD, h]
theorem encA_getD (l : List Ac) (i : Nat) (h : i < l.length) : (l.map encA).getD i [] = encA l[i] := by simp [List.getD, h]
end Go.Proofs.YtihgnpboabpchaaGreatDoor
namespace Go.Proofs.YtihgnpboabpchaaGreatDoor
set_option linter.unusedSimpArgs false
set_option linter.unusedVariables false
set_option linter.unnecessarySimpa false
open Go Am
theorem own_knob : ownKnob Tryz.prog.godebug = none := by kernel_rfl
theorem laid_out : laidOutB Tryz.prog = true := by kernel_rfl
theorem sh_acs : shAt Tryz.prog 8 22 = some [.sl [.int .i64, .int .i64, .str, .str, .flt .f64, .sl [.int .u8]]] := by kernel_rfl
theorem sh_ac : shAt Tryz.prog 8 40 = some [.int .i64, .int .i64, .str, .str, .flt .f64, .sl [.int .u8]] := by kernel_rfl
theorem bounds_u8 {i : Int} (h : (Lit.int .u8 i).wf = true) : 0 ≤ i ∧ i < 256 := by
  simp [Lit.wf, IntKind.min, IntKind.max, IntKind.bits, IntKind.signed] at h
  omega
theorem oct_row {ds : List PD} (h : FitAll [.int .u8] ds) : ∃ c : UInt8, ds = encO c ∧ True := by
  obtain ⟨d0, r0, rfl, f0, h0⟩ := h.cons
  obtain rfl := h0.nil
  obtain ⟨i, rfl, hi⟩ := f0.int_inv
  have hb := bounds_u8 hi
  refine ⟨UInt8.ofNat i.toNat, ?_, trivial⟩
  have : ((UInt8.ofNat i.toNat).toNat : Int) = i := by simp; omega
  rw [encO, this]
theorem fit_octs {d : PD} (h : Fit (.sl [.int .u8]) d) : ∃ s : S, d = .sl 1 (s.map encO) ∧ s.length ≤ maxLen := by
  obtain ⟨rows, rfl, hm, hr⟩ := h.sl_inv
  obtain ⟨l, rfl, _⟩ := rows_map (enc := encO) (q := fun _ => True) (fun row hrow => oct_row (hr row hrow))
  exact ⟨l, rfl, by simpa using hm⟩
theorem ac_row {ds : List PD} (h : FitAll [.int .i64, .int .i64, .str, .str, .flt .f64, .sl [.int .u8]] ds) : ∃ a : Ac, ds = encA a ∧ a.data.length ≤ maxLen := by
  obtain ⟨d0, r0, rfl, f0, h0⟩ := h.cons
  obtain ⟨d1, r1, rfl, f1, h1⟩ := h0.cons
  obtain ⟨d2, r2, rfl, f2, h2⟩ := h1.cons
  obtain ⟨d3, r3, rfl, f3, h3⟩ := h2.cons
  obtain ⟨d4, r4, rfl, f4, h4⟩ := h3.cons
  obtain ⟨d5, r5, rfl, f5, h5⟩ := h4.cons
  obtain rfl := h5.nil
  obtain ⟨i0, rfl, _⟩ := f0.int_inv
  obtain ⟨i1, rfl, _⟩ := f1.int_inv
  obtain ⟨s, rfl, _⟩ := f2.str_inv
  obtain ⟨q, rfl, _⟩ := f3.str_inv
  obtain ⟨r, rfl, _⟩ := f4.flt_inv
  obtain ⟨x, rfl, hx⟩ := fit_octs f5
  exact ⟨⟨i0, i1, s.data.toList, q.data.toList, r, x⟩, by rw [encA, mkS_of, mkS_of], hx⟩
theorem arg_ac {ds : List PD} (h : FitAll [.int .i64, .int .i64, .str, .str, .flt .f64, .sl [.int .u8]] ds) : ∃ a : Ac, AV.agg (ds.map .p) = AcV a ∧ a.data.length ≤ maxLen := by
  obtain ⟨f, rfl, hf⟩ := ac_row h
  exact ⟨f, rfl, hf⟩
theorem arg_acs {d : PD} (h : Fit (.sl [.int .i64, .int .i64, .str, .str, .flt .f64, .sl [.int .u8]]) d) : ∃ l : List Ac, AV.one (.p d) = AcsV l ∧ l.length ≤ maxLen := by
  obtain ⟨rows, rfl, hm, hr⟩ := h.sl_inv
  obtain ⟨l, rfl, hl⟩ := rows_map (enc := encA) (q := fun a => a.data.length ≤ maxLen) (fun row hrow => ac_row (hr row hrow))
  exact ⟨l, rfl, by simpa using hm⟩
theorem ravs_cons {ι : Nat → Nat} {h : Heap} {bd : Nat} {w : World} {a : AV} {al : List AV} {v : Value} {vs : List Value} (h1 : RAV ι h bd w a v) (h2 : RAVs ι h bd w al vs) : RAVs ι h bd w (a :: al) (v :: vs) := by
  refine ⟨by simp [h2.1], fun i c u hc hu => ?_⟩
  match i with
  | 0 => simp at hc hu; subst hc; subst hu; exact h1
  | i + 1 => exact h2.2 i c u (by simpa using hc) (by simpa using hu)
theorem ravs_nil {ι : Nat → Nat} {h : Heap} {bd : Nat} {w : World} : RAVs ι h bd w [] [] := ⟨rfl, fun _ _ _ e => by simp at e⟩
end Go.Proofs.YtihgnpboabpchaaGreatDoor
namespace Go.Proofs.YtihgnpboabpchaaGreatDoor
set_option linter.unusedSimpArgs false
set_option linter.unusedVariables false
set_option linter.unnecessarySimpa false
open Go Am
set_option maxRecDepth 100000
def bsknI (xs : List Kn) (tv : ByteArray) (g : FuncId) (h : Heap) (i j : Nat) (st : St) : Prop :=
  st.h = h ∧ st.t 0 = .one (.p (.sl 3 (xs.map encK))) ∧ st.t 1 = .one (.p (.v (.string tv))) ∧ st.t 2 = .one (.clo (.func g) [] []) ∧ st.t 8 = IntV xs.length ∧ st.t 9 = IntV (i : Nat) ∧ st.t 10 = IntV (j : Nat)
theorem bskn_ok (xs : List Kn) (tv : ByteArray) (g : FuncId) (z : Kn → Int) (k : Nat) (hl : xs.length ≤ 1000000) (hg : bodyB Tryz.prog g = true) (hc : ∀ x ∈ xs, ∀ (h : Heap) (b : Nat), ACalls Tryz.prog g [.agg ((encK x).map .p), .one (.p (.v (.string tv)))] h b 0 (fun r h' => r = IntV (z x) ∧ h' = h))
    (hk : k ≤ xs.length) (h1 : ∀ (j : Nat) (hj : j < xs.length), j < k → z xs[j] < 0) (h2 : ∀ (j : Nat) (hj : j < xs.length), k ≤ j → ¬ z xs[j] < 0) (f : Bool) (hf : f = true ↔ ∃ hk : k < xs.length, z xs[k] = 0) (h : Heap) (b : Nat) :
    ACalls Tryz.prog 149 [.one (.p (.sl 3 (xs.map encK))), .one (.p (.v (.string tv))), .one (.clo (.func g) [] [])] h b 0 (fun r h' => r = .tup [IntV k, BoolV f] ∧ h' = h) := by
  refine ACalls.enter Tryz.func149 rfl (by simp [Tryz.ntmps149]) (fun ι w hn H => ?_)
  have hlm : (xs.map encK).length = xs.length := List.length_map _
  refine Rk ?_
  refine Rkf @hlm ?_
  refine Rkf @hlm ?_
  refine AWP.seq ?_
  refine AWP.block ?_
  refine AWP.loopK 0 (fun m st => ∃ i j, i ≤ k ∧ k ≤ j ∧ j ≤ xs.length ∧ m = j - i ∧ bsknI xs tv g h i j st) xs.length rfl ⟨0, xs.length, Nat.zero_le _, hk, Nat.le_refl _, rfl, rfl, by exact Er, by exact Er, by exact Er, by exact Er, by exact Er, by exact Er⟩ ?_
  rintro m ⟨t, hh, n⟩ ⟨i, j, hik, hkj, hj, rfl, rfl, e0, e1, e2, e8, e9, e10⟩ hn1
  simp only at e0 e1 e2 e8 e9 e10 hn1
  subst hn1
  refine AWP.seq ?_
  refine Rkf (jn2 @e9 @e10) ?_
  by_cases hlt : (i : Int) < j
  · refine Btf @hlt ?_
    refine AWP.skip ?_
    refine Ev ?_
    refine AWP.block ?_
    obtain ⟨c, hcd⟩ : ∃ c, (i + j) / 2 = c := ⟨_, rfl⟩
    have hci : i ≤ c ∧ c < j := by omega
    have hsum : IntKind.i64.wrap ((i : Int) + j) = ((i + j : Nat) : Int) := by rw [wrap_i64 (by omega) (by omega)]; omega
    have hu : IntKind.u64.wrap ((i + j : Nat) : Int) = ((i + j : Nat) : Int) := IntWalk.u64_in _ ⟨by omega, by omega⟩
    have h10 : ¬ (1 : Int) < 0 := by decide
    have hfd : Int.fdiv ((i + j : Nat) : Int) (2 ^ min (Int.toNat 1) 64) = (c : Int) := by
      rw [← hcd, show ((2 : Int) ^ min (Int.toNat 1) 64) = 2 from rfl, Int.fdiv_eq_ediv_of_nonneg _ (by decide)]; omega
    have hback : IntKind.i64.wrap (c : Int) = (c : Int) := wrap_i64 (by omega) (by omega)
    have hcl : c < xs.length := by omega
    have hge : (xs.map encK).getD c [] = encK xs[c] := by simp [List.getD, hcl]
    have hz1 := h1 c hcl
    have hz2 := h2 c hcl
    obtain ⟨x, hx⟩ : ∃ x, xs[c] = x := ⟨_, rfl⟩
    rw [hx] at hge hz1 hz2
    have hxm : x ∈ xs := by rw [← hx]; exact List.getElem_mem hcl
    have hlt3 : (c : Int) < xs.length := by omega
    have hw1 : IntKind.i64.wrap ((c : Int) + 1) = ((c + 1 : Nat) : Int) := by rw [wrap_i64 (by omega) (by omega)]; rfl
    refine Rkf (jn7 @e9 @e10 @hsum @hu @h10 @hfd @hback) ?_
    refine Rgf (jn6 @e0 @e1 @e2 @hlm @hlt3 @hge) (fun E K hE hK => ?_)
    refine ⟨by omega, ?_⟩
    refine Us (hc x hxm _ _) hg ?_
    refine hK _ _ _ ?_; clear hE hK K E
    by_cases hneg : z x < 0
    · have hk2 : c < k := by
        rcases Nat.lt_or_ge c k with q | q
        · exact q
        · exact absurd hneg (hz2 q)
      refine Btf @hneg ?_
      refine Raf @hw1 (fun E K hE hK => ?_); refine hK _ _ _ ?_; clear hE hK K E
      exact ⟨rfl, j - (c + 1), by omega, c + 1, j, by omega, by omega, by omega, rfl, rfl, by exact Ecf @e0, by exact Ecf @e1, by exact Ecf @e2, by exact Ecf @e8, by exact Er, by exact Ecf @e10⟩
    · have hk2 : k ≤ c := by
        rcases Nat.lt_or_ge c k with q | q
        · exact absurd (hz1 q) hneg
        · exact q
      refine Bff @hneg ?_
      refine Ra (fun E K hE hK => ?_); refine hK _ _ _ ?_; clear hE hK K E
      exact ⟨rfl, c - i, by omega, i, c, by omega, by omega, by omega, rfl, rfl, by exact Ecf @e0, by exact Ecf @e1, by exact Ecf @e2, by exact Ecf @e8, by exact Ecf @e9, by exact Er⟩
  · refine Bff @hlt ?_
    refine AWP.exit ?_
    refine Ev ?_
    have hij : i = k := by omega
    subst hij
    have hfin : ∀ (t : Nat → AV) (n : Nat), t 6 = IntV i → t 7 = BoolV f → Am.Ends Tryz.prog ⟨Tryz.f149.ntmps, b, ι, hh, w, x0⟩ Tryz.f149 0 (fun r h' => r = .tup [IntV i, BoolV f] ∧ h' = hh) ⟨t, hh, n⟩ := by
      intro t n g6 g7
      exact Ends.pure hn H (fun _ _ => rfl) (r0 := .tup [IntV i, BoolV f]) (by rw [show Tryz.f149.results.toList = [.tmp 6, .tmp 7] from rfl]; exact Ecf (jn2 @g6 @g7)) (frz_tup2 (.v _) (.v _)) ⟨rfl, rfl⟩
    by_cases hkn : ((i : Nat) : Int) < xs.length
    · have hk2 : i < xs.length := by omega
      have hge : (xs.map encK).getD i [] = encK xs[i] := by simp [List.getD, hk2]
      obtain ⟨x, hx⟩ : ∃ x, xs[i] = x := ⟨_, rfl⟩
      have hd : f = decide (z x = 0) := by
        rw [Bool.eq_iff_iff, hf, decide_eq_true_eq]
        exact ⟨fun ⟨_, e⟩ => by rw [← hx]; exact e, fun e => ⟨hk2, by rw [hx]; exact e⟩⟩
      rw [hx] at hge
      have hxm : x ∈ xs := by rw [← hx]; exact List.getElem_mem hk2
      refine Rgf (jn2 @e0 (jn7 @e1 @e2 @e8 @e9 @hlm @hkn @hge)) (fun E K hE hK => ?_)
      refine ⟨by omega, ?_⟩
      refine Us (hc x hxm _ _) hg ?_
      refine hK _ _ _ ?_; clear hE hK K E
      refine AWP.ret ?_
      exact hfin _ _ (by exact Er) (by rw [hd]; exact Er)
    · have hd : f = false := by
        rw [← Bool.not_eq_true, hf]
        rintro ⟨q, _⟩; omega
      refine Rkf (jn7 @e0 @e1 @e2 @e8 @e9 @hlm @hkn) ?_
      refine AWP.ret ?_
      exact hfin _ _ (by exact Er) (by rw [hd]; exact Er)
end Go.Proofs.YtihgnpboabpchaaGreatDoor
namespace Go.Proofs.YtihgnpboabpchaaGreatDoor
set_option linter.unusedSimpArgs false
set_option linter.unusedVariables false
set_option linter.unnecessarySimpa false
open Go Am
set_option maxRecDepth 100000
def bsstI (xs : List S) (tv : ByteArray) (g : FuncId) (h : Heap) (i j : Nat) (st : St) : Prop :=
  st.h = h ∧ st.t 0 = .one (.p (.sl 1 (xs.map encS))) ∧ st.t 1 = .one (.p (.v (.string tv))) ∧ st.t 2 = .one (.clo (.func g) [] []) ∧ st.t 8 = IntV xs.length ∧ st.t 9 = IntV (i : Nat) ∧ st.t 10 = IntV (j : Nat)
theorem bsst_ok (xs : List S) (tv : ByteArray) (g : FuncId) (z : S → Int) (k : Nat) (hl : xs.length ≤ 1000000) (hg : bodyB Tryz.prog g = true) (hc : ∀ x ∈ xs, ∀ (h : Heap) (b : Nat), ACalls Tryz.prog g [.one (.p (.v (.string (mkS x)))), .one (.p (.v (.string tv)))] h b 0 (fun r h' => r = IntV (z x) ∧ h' = h))
    (hk : k ≤ xs.length) (h1 : ∀ (j : Nat) (hj : j < xs.length), j < k → z xs[j] < 0) (h2 : ∀ (j : Nat) (hj : j < xs.length), k ≤ j → ¬ z xs[j] < 0) (f : Bool) (hf : f = true ↔ ∃ hk : k < xs.length, z xs[k] = 0) (h : Heap) (b : Nat) :
    ACalls Tryz.prog 115 [.one (.p (.sl 1 (xs.map encS))), .one (.p (.v (.string tv))), .one (.clo (.func g) [] [])] h b 0 (fun r h' => r = .tup [IntV k, BoolV f] ∧ h' = h) := by
  refine ACalls.enter Tryz.func115 rfl (by simp [Tryz.ntmps115]) (fun ι w hn H => ?_)
  have hlm : (xs.map encS).length = xs.length := List.length_map _
  refine Rk ?_
  refine Rkf @hlm ?_
  refine Rkf @hlm ?_
  refine AWP.seq ?_
  refine AWP.block ?_
  refine AWP.loopK 0 (fun m st => ∃ i j, i ≤ k ∧ k ≤ j ∧ j ≤ xs.length ∧ m = j - i ∧ bsstI xs tv g h i j st) xs.length rfl ⟨0, xs.length, Nat.zero_le _, hk, Nat.le_refl _, rfl, rfl, by exact Er, by exact Er, by exact Er, by exact Er, by exact Er, by exact Er⟩ ?_
  rintro m ⟨t, hh, n⟩ ⟨i, j, hik, hkj, hj, rfl, rfl, e0, e1, e2, e8, e9, e10⟩ hn1
  simp only at e0 e1 e2 e8 e9 e10 hn1
  subst hn1
  refine AWP.seq ?_
  refine Rkf (jn2 @e9 @e10) ?_
  by_cases hlt : (i : Int) < j
  · refine Btf @hlt ?_
    refine AWP.skip ?_
    refine Ev ?_
    refine AWP.block ?_
    obtain ⟨c, hcd⟩ : ∃ c, (i + j) / 2 = c := ⟨_, rfl⟩
    have hci : i ≤ c ∧ c < j := by omega
    have hsum : IntKind.i64.wrap ((i : Int) + j) = ((i + j : Nat) : Int) := by rw [wrap_i64 (by omega) (by omega)]; omega
    have hu : IntKind.u64.wrap ((i + j : Nat) : Int) = ((i + j : Nat) : Int) := IntWalk.u64_in _ ⟨by omega, by omega⟩
    have h10 : ¬ (1 : Int) < 0 := by decide
    have hfd : Int.fdiv ((i + j : Nat) : Int) (2 ^ min (Int.toNat 1) 64) = (c : Int) := by
      rw [← hcd, show ((2 : Int) ^ min (Int.toNat 1) 64) = 2 from rfl, Int.fdiv_eq_ediv_of_nonneg _ (by decide)]; omega
    have hback : IntKind.i64.wrap (c : Int) = (c : Int) := wrap_i64 (by omega) (by omega)
    have hcl : c < xs.length := by omega
    have hge : (xs.map encS).getD c [] = encS xs[c] := by simp [List.getD, hcl]
    have hz1 := h1 c hcl
    have hz2 := h2 c hcl
    obtain ⟨x, hx⟩ : ∃ x, xs[c] = x := ⟨_, rfl⟩
    rw [hx] at hge hz1 hz2
    have hxm : x ∈ xs := by rw [← hx]; exact List.getElem_mem hcl
    have hlt3 : (c : Int) < xs.length := by omega
    have hw1 : IntKind.i64.wrap ((c : Int) + 1) = ((c + 1 : Nat) : Int) := by rw [wrap_i64 (by omega) (by omega)]; rfl
    refine Rkf (jn7 @e9 @e10 @hsum @hu @h10 @hfd @hback) ?_
    refine Rgf (jn6 @e0 @e1 @e2 @hlm @hlt3 @hge) (fun E K hE hK => ?_)
    refine ⟨by omega, ?_⟩
    refine Us (hc x hxm _ _) hg ?_
    refine hK _ _ _ ?_; clear hE hK K E
    by_cases hneg : z x < 0
    · have hk2 : c < k := by
        rcases Nat.lt_or_ge c k with q | q
        · exact q
        · exact absurd hneg (hz2 q)
      refine Btf @hneg ?_
      refine Raf @hw1 (fun E K hE hK => ?_); refine hK _ _ _ ?_; clear hE hK K E
      exact ⟨rfl, j - (c + 1), by omega, c + 1, j, by omega, by omega, by omega, rfl, rfl, by exact Ecf @e0, by exact Ecf @e1, by exact Ecf @e2, by exact Ecf @e8, by exact Er, by exact Ecf @e10⟩
    · have hk2 : k ≤ c := by
        rcases Nat.lt_or_ge c k with q | q
        · exact absurd (hz1 q) hneg
        · exact q
      refine Bff @hneg ?_
      refine Ra (fun E K hE hK => ?_); refine hK _ _ _ ?_; clear hE hK K E
      exact ⟨rfl, c - i, by omega, i, c, by omega, by omega, by omega, rfl, rfl, by exact Ecf @e0, by exact Ecf @e1, by exact Ecf @e2, by exact Ecf @e8, by exact Ecf @e9, by exact Er⟩
  · refine Bff @hlt ?_
    refine AWP.exit ?_
    refine Ev ?_
    have hij : i = k := by omega
    subst hij
    have hfin : ∀ (t : Nat → AV) (n : Nat), t 6 = IntV i → t 7 = BoolV f → Am.Ends Tryz.prog ⟨Tryz.f115.ntmps, b, ι, hh, w, x0⟩ Tryz.f115 0 (fun r h' => r = .tup [IntV i, BoolV f] ∧ h' = hh) ⟨t, hh, n⟩ := by
      intro t n g6 g7
      exact Ends.pure hn H (fun _ _ => rfl) (r0 := .tup [IntV i, BoolV f]) (by rw [show Tryz.f115.results.toList = [.tmp 6, .tmp 7] from rfl]; exact Ecf (jn2 @g6 @g7)) (frz_tup2 (.v _) (.v _)) ⟨rfl, rfl⟩
    by_cases hkn : ((i : Nat) : Int) < xs.length
    · have hk2 : i < xs.length := by omega
      have hge : (xs.map encS).getD i [] = encS xs[i] := by simp [List.getD, hk2]
      obtain ⟨x, hx⟩ : ∃ x, xs[i] = x := ⟨_, rfl⟩
      have hd : f = decide (z x = 0) := by
        rw [Bool.eq_iff_iff, hf, decide_eq_true_eq]
        exact ⟨fun ⟨_, e⟩ => by rw [← hx]; exact e, fun e => ⟨hk2, by rw [hx]; exact e⟩⟩
      rw [hx] at hge
      have hxm : x ∈ xs := by rw [← hx]; exact List.getElem_mem hk2
      refine Rgf (jn2 @e0 (jn7 @e1 @e2 @e8 @e9 @hlm @hkn @hge)) (fun E K hE hK => ?_)
      refine ⟨by omega, ?_⟩
      refine Us (hc x hxm _ _) hg ?_
      refine hK _ _ _ ?_; clear hE hK K E
      refine AWP.ret ?_
      exact hfin _ _ (by exact Er) (by rw [hd]; exact Er)
    · have hd : f = false := by
        rw [← Bool.not_eq_true, hf]
        rintro ⟨q, _⟩; omega
      refine Rkf (jn7 @e0 @e1 @e2 @e8 @e9 @hlm @hkn) ?_
      refine AWP.ret ?_
      exact hfin _ _ (by exact Er) (by rw [hd]; exact Er)
end Go.Proofs.YtihgnpboabpchaaGreatDoor
namespace Go.Proofs.YtihgnpboabpchaaGreatDoor
set_option linter.unusedSimpArgs false
set_option linter.unusedVariables false
set_option linter.unnecessarySimpa false
open Go Am
set_option maxRecDepth 100000
theorem clone_str_ok (es : List (List PD)) (ho : okEs 1 es) (h : Heap) (b : Nat) (hl : es.length ≤ 1000000000) :
    ACalls Tryz.prog 95 [.one (.p (.sl 1 es))] h b 1 (rowR 1 es h b) := by
  refine ACalls.enter Tryz.func95 rfl (by simp [Tryz.ntmps95]) (fun ι w hn H => ?_)
  refine Rk ?_
  refine AWP.seq ?_
  refine Rg (fun E K hE hK => ?_)
  refine EqlR.nil_sl rfl (.inl rfl) (fun g hg => ?_)
  refine Ev ?_
  refine hK _ _ _ ?_; clear hE hK K E
  cases g
  · refine AWP.ifF (by exact Ec) ?_
    refine AWP.skip ?_
    refine Ev ?_
    refine Rg (fun E K hE hK => ?_)
    refine BiR.of ?_
    refine BiK.append_own (e := 9) (sz := 1) (bytes := 16) (m := es.length) (xs := es.flatten.map .p) ty_slE_42 ty_tsz_9 ty_tzero_9 rfl ty_tby_9 ty_isIntT_42 (upd_same _ _ _) rfl rfl (by simp [srcA]) (okEs_flat ho _) (by omega) (by decide) (by omega) (fun cap k h1 h2 => ?_)
    refine Ev ?_
    refine hK _ _ _ ?_; clear hE hK K E
    refine AWP.ret ?_
    refine Ev ?_
    refine Ends.row (id := b) (blk := ⟨1, es.flatten.map .p ++ List.replicate k .junk⟩) hn H (lowEq_upd (Nat.le_refl _) (fun _ _ => rfl)) (Nat.le_refl _) (upd_same _ _ _) (lowCs_app (lowCs_p _ _) (lowCs_junk _ _))
      (by rw [show Tryz.f95.results.toList = [.tmp 2] from rfl]; exact Ec) (renV.win0 _ _ _ _) ⟨1, cap, List.replicate k .junk, by omega, by rw [List.length_replicate]; omega, lowCs_junk _ _, rfl, rfl⟩
  · have he := hg rfl
    subst he
    refine AWP.ifT (by exact Ec) ?_
    refine Rk ?_
    refine AWP.virt 2 (by exact Ec) ?_
    refine AWP.ret ?_
    refine Ev ?_
    refine Ends.row (id := b) (blk := ⟨0, []⟩) hn H (lowEq_upd (Nat.le_refl _) (fun _ _ => rfl)) (Nat.le_refl _) (upd_same _ _ _) rfl
      (by rw [show Tryz.f95.results.toList = [.tmp 2] from rfl]; exact Ec) (renV.win0 _ _ _ _) ⟨0, 0, [], Nat.le_refl _, rfl, rfl, rfl, rfl⟩
end Go.Proofs.YtihgnpboabpchaaGreatDoor

namespace Go.Proofs.YtihgnpboabpchaaGreatDoor
set_option linter.unusedSimpArgs false
set_option linter.unusedVariables false
set_option linter.unnecessarySimpa false
open Go Am
set_option maxRecDepth 100000
theorem over_str : isOver Tryz.prog 157 42 4 := fun args w =>
  run_callFunc_extern (fn := Tryz.f157) Tryz.func157 (by kernel_rfl) (by kernel_rfl) (by kernel_rfl) (e := Extern.SlicesOverlaps.overlaps #[42, 42] #[4]) (by kernel_rfl) args w
set_option maxHeartbeats 1600000 in
theorem insert_str_ok (es vs : List (List PD)) (ho : okEs 1 es) (hv : okEs 1 vs) (h : Heap) (b id ver cap i : Nat) (T : List Cell) (hid : id < b) (hb : h id = some (rowB ver es T)) (hT : lowCs 0 T = true) (hcap : es.length ≤ cap)
    (hc : cap * 1 = es.length * 1 + T.length) (hi : i ≤ es.length) (hl : es.length ≤ 1000000000) (hl2 : vs.length ≤ 1000000000) :
    ACalls Tryz.prog 116 [.one (.win id ver 0 es.length cap), IntV i, .one (.p (.sl 1 vs))] h b 0 (rowR 1 (es.take i ++ (vs ++ es.drop i)) h id) := by
  refine ACalls.enter Tryz.func116 rfl (by simp [Tryz.ntmps116]) (fun ι w hn H => ?_)
  have hlow := H.lowCells
  have hfl := okEs_len ho
  have hfv := okEs_len hv
  have htl : (es.take i).length = i := by rw [List.length_take]; omega
  have hdl : (es.drop i).length = es.length - i := by simp
  have hrl : (es.take i ++ (vs ++ es.drop i)).length = es.length + vs.length := by rw [List.length_append, List.length_append, htl, hdl]; omega
  have hsplit : es.flatten.map Cell.p = (es.take i).flatten.map .p ++ (es.drop i).flatten.map .p := by rw [← List.map_append, ← List.flatten_append, List.take_append_drop]
  refine Rk ?_
  refine Rgf @hb (fun E K hE hK => ?_)
  refine ⟨⟨by omega, by omega⟩, ?_⟩
  refine hK _ _ _ ?_; clear hE hK K E
  refine Rk ?_
  refine AWP.seq ?_
  refine Rk ?_
  by_cases hv0 : (vs.length : Int) = 0
  · refine AWP.ifT (by exact Ecf @hv0) ?_
    refine Rk ?_
    refine AWP.ret ?_
    refine Ev ?_
    have : vs = [] := List.eq_nil_of_length_eq_zero (by omega)
    subst this
    refine Ends.turn hn H hid (fun k _ => by rw [upd_self hb]) (lowCs_app (lowCs_p _ _) (lowCs_mono (Nat.zero_le _) hT)) (r0 := .one (.win id ver 0 es.length cap))
      (by rw [show Tryz.f116.results.toList = [.tmp 6] from rfl]; exact Ec) (.one (.inl ⟨rfl, by simp [lowC, hid]⟩)) ?_
    rw [List.nil_append, List.take_append_drop]
    exact ⟨ver, cap, T, hcap, hc, hT, rfl, rfl⟩
  refine AWP.ifF (by exact Ecf @hv0) ?_
  refine AWP.skip ?_
  refine Ev ?_
  refine Rkf @hb ?_
  refine AWP.seq ?_
  refine Rk ?_
  by_cases hie : (i : Int) = es.length
  · refine AWP.ifT (by exact Ecf @hie) ?_
    refine Rgf @hb (fun E K hE hK => ?_)
    have hie' : i = es.length := by omega
    subst hie'
    have htk : (rowB ver es T).cells.take (es.length * 1) = es.flatten.map .p := by rw [List.take_left' (by rw [List.length_map, hfl])]
    refine BiR.of ?_
    refine BiK.append_own (e := 9) (sz := 1) (bytes := 16) (m := vs.length) (xs := vs.flatten.map .p) ty_slE_42 ty_tsz_9 ty_tzero_9 rfl ty_tby_9 ty_isIntT_42 hb rfl (by simp only [List.length_append, List.length_map, hfl]; omega) (by simp [srcA]) (okEs_flat hv _) (by omega) (by decide) (by omega) (fun cap' k h1 h2 => ?_)
    rw [htk]
    refine Ev ?_
    refine hK _ _ _ ?_; clear hE hK K E
    refine AWP.ret ?_
    refine Ev ?_
    refine Ends.turn hn H hid (fun k _ => rfl) (lowCs_app (lowCs_p _ _) (lowCs_app (lowCs_p _ _) (lowCs_junk _ _))) (r0 := .one (.win id (ver + 1) 0 (es.length + vs.length) cap'))
      (by rw [show Tryz.f116.results.toList = [.tmp 6] from rfl]; exact Ec) (.one (.inl ⟨rfl, by simp [lowC, hid]⟩)) ?_
    have he : es.take es.length ++ (vs ++ es.drop es.length) = es ++ vs := by simp
    rw [he]
    refine ⟨ver + 1, cap', List.replicate k .junk, by rw [List.length_append]; omega, by rw [List.length_append, List.length_replicate]; omega, lowCs_junk _ _, by rw [List.length_append], ?_⟩
    rw [rowB_app]
  refine AWP.ifF (by exact Ecf @hie) ?_
  refine AWP.skip ?_
  refine Ev ?_
  refine AWP.seq ?_
  refine Rkf @hb ?_
  have hw1 : IntKind.i64.wrap ((es.length : Int) + vs.length) = ((es.length + vs.length : Nat) : Int) := by rw [wrap_i64 (by omega) (by omega)]; omega
  by_cases hgr : cap < es.length + vs.length
  · refine AWP.ifT (by exact Ecf (jn2 @hw1 (show (cap : Int) < ((es.length + vs.length : Nat) : Int) by omega))) ?_
    have hw2 : IntKind.i64.wrap (((es.length + vs.length : Nat) : Int) - i) = ((es.length + vs.length - i : Nat) : Int) := by rw [wrap_i64 (by omega) (by omega)]; omega
    refine Rgf (jn3 @hb @hw1 @hw2) (fun E K hE hK => ?_)
    refine ⟨⟨by omega, by omega⟩, ?_⟩
    have hsr := srcA_row (cap := cap) (off := 0) (m := i) 0 hb ho (by omega) (.inl (by omega))
    rw [List.drop_zero] at hsr
    have hne : ¬ id = b := by omega
    have hne' : ¬ b = id := by omega
    refine BiR.of ?_
    refine BiK.append_mk (e := 9) (sz := 1) (bytes := 16) (zs := [.string ByteArray.empty]) ty_slE_42 ty_tsz_9 ty_tzero_9 rfl ty_tby_9 ty_intK_3 (by exact Ecf @hb) hsr (by omega) (by omega) (by decide) (by omega) (fun cap' k h1 h2 => ?_)
    have hsum : i + (es.length + vs.length - i) = es.length + vs.length := by omega
    rw [hsum] at h1 h2
    rw [rowB_zeros, hsum]
    have hz0 : okEs 1 (List.replicate (es.length + vs.length - i) (List.map PD.v [.string ByteArray.empty])) := okEs_replicate rfl (by decide) _
    have hoz : okEs 1 (es.take i ++ List.replicate (es.length + vs.length - i) (List.map PD.v [.string ByteArray.empty])) := (ho.take i).append hz0
    have hozl : (es.take i ++ List.replicate (es.length + vs.length - i) (List.map PD.v [.string ByteArray.empty])).length = es.length + vs.length := by rw [List.length_append, htl, List.length_replicate]; omega
    have hoz1 : (es.take i ++ List.replicate (es.length + vs.length - i) (List.map PD.v [.string ByteArray.empty])).take i = es.take i := by rw [List.take_append_of_le_length (by omega), List.take_of_length_le (by omega)]
    have hfz := okEs_len hoz
    rw [hozl] at hfz
    generalize es.take i ++ List.replicate (es.length + vs.length - i) (List.map PD.v [.string ByteArray.empty]) = e1 at hoz hozl hfz hoz1 ⊢
    refine Ev ?_
    refine hK _ _ _ ?_; clear hE hK K E
    refine Rgf (show ¬ cap' = i by omega) (fun E K hE hK => ?_)
    refine ⟨⟨by omega, by omega⟩, ?_⟩
    refine BiR.of ?_
    refine BiK.copy (e := 9) (sz := 1) (m := vs.length) (xs := vs.flatten.map .p) ty_slE_42 ty_tsz_9 (upd_same _ _ _) rfl (by simp [srcA]) (fun c hc => okEs_flat hv _ c (List.mem_of_mem_take hc)) (by simp only [List.length_append, List.length_map, hfz, List.length_replicate]; omega) ?_
    rw [Nat.min_eq_left (by omega), List.take_of_length_le (by rw [List.length_map, hfv]; exact Nat.le_refl _), spl_els _ hoz hv (by omega) 0 rfl, hoz1]
    have hd2 : (es.take i ++ (vs ++ e1.drop (i + vs.length))).length = es.length + vs.length := by rw [List.length_append, List.length_append, List.length_drop, htl, hozl]; omega
    have ho2 : okEs 1 (es.take i ++ (vs ++ e1.drop (i + vs.length))) := (ho.take i).append (hv.append (hoz.drop _))
    have ho2t : (es.take i ++ (vs ++ e1.drop (i + vs.length))).take (i + vs.length) = es.take i ++ vs := by
      rw [← List.append_assoc, List.take_append_of_le_length (by rw [List.length_append, htl]; omega), List.take_of_length_le (by rw [List.length_append, htl]; omega)]
    have hf2 := okEs_len ho2
    rw [hd2] at hf2
    generalize es.take i ++ (vs ++ e1.drop (i + vs.length)) = e2 at hd2 ho2 ho2t hf2 ⊢
    refine Ev ?_
    refine hK _ _ _ ?_; clear hE hK K E
    have hw3 : IntKind.i64.wrap ((i : Int) + vs.length) = ((i + vs.length : Nat) : Int) := by rw [wrap_i64 (by omega) (by omega)]; omega
    refine AWP.seqRegD [] [] [b] mixed (by kernel_rfl) (by kernel_rfl) (fun K hK => .inl ?_) (by kernel_rfl); simp -implicitDefEqProofs only [go_sem, ↓reduceIte, Nat.reduceEqDiff, Nat.reduceAdd, Nat.reduceLT, Nat.reduceLeDiff, reduceCtorEq, Int.toNat_natCast, hb, ers_lit, hw3, hne, hne', show ¬ cap' = i + vs.length by omega]
    refine ⟨⟨by omega, by omega⟩, ⟨by omega, by omega⟩, ?_⟩
    have hsrc := srcA_row (h := upd h b (rowB 0 e2 (List.replicate k .junk))) (cap := cap - i) (off := if cap = i then 0 else i * 1) (m := es.length - i) i (by rw [upd_ne _ _ _ _ hne]; exact hb) ho (by omega) (by
      by_cases hcj : cap = i
      · rw [if_pos hcj]; exact .inr ⟨by omega, rfl⟩
      · rw [if_neg hcj]; exact .inl rfl)
    rw [List.take_of_length_le (by simp : (es.drop i).length ≤ es.length - i)] at hsrc
    refine BiD.of ?_
    refine BiK.copy (e := 9) (sz := 1) (m := es.length - i) (xs := (es.drop i).flatten.map .p) ty_slE_42 ty_tsz_9 (upd_same _ _ _) rfl hsrc (fun c hc => okEs_flat (ho.drop i) _ c (List.mem_of_mem_take hc)) (by simp only [List.length_append, List.length_map, hf2, List.length_replicate]; omega) ?_
    rw [show es.length + vs.length - (i + vs.length) = es.length - i by omega, Nat.min_self, List.take_of_length_le (by rw [List.length_map, okEs_len (ho.drop i), hdl]; exact Nat.le_refl _), upd_upd, spl_els _ ho2 (ho.drop i) (by omega) 0 rfl, ho2t,
      show e2.drop (i + vs.length + (es.drop i).length) = [] from List.drop_of_length_le (by omega), List.append_nil, List.append_assoc]
    refine ⟨Sub.reupd (sub_ers _ b) (fun c e => ?_), ?_⟩
    · rw [ers_lit, if_pos rfl, upd_same] at e; injection e with e; subst e; exact ⟨rfl, rfl⟩
    generalize hE3 : es.take i ++ (vs ++ es.drop i) = e3 at hrl ⊢
    refine Ev ?_
    refine hK _ _ _ ?_; clear hK K
    refine Rk ?_
    refine AWP.ret ?_
    refine Ev ?_
    refine Ends.move hn H hid hb (fun k hk _ => upd_ne _ _ _ _ (Nat.ne_of_lt hk)) (Nat.le_refl _) (upd_same _ _ _) rfl (lowCs_app (lowCs_p _ _) (lowCs_junk _ _)) (off := 0) (len := es.length + vs.length) (cap := cap')
      (by rw [show Tryz.f116.results.toList = [.tmp 6] from rfl]; exact Ec) ?_
    subst hE3
    exact ⟨ver + 1, cap', List.replicate k .junk, by omega, by rw [List.length_replicate]; omega, lowCs_junk _ _, by rw [hrl], rfl⟩
  · refine AWP.ifF (by exact Ecf (jn2 @hw1 (show ¬ (cap : Int) < ((es.length + vs.length : Nat) : Int) by omega))) ?_
    refine AWP.skip ?_
    refine Ev ?_
    refine Rgf (jn2 @hb @hw1) (fun E K hE hK => ?_)
    refine ⟨⟨by omega, by omega⟩, ?_⟩
    refine hK _ _ _ ?_; clear hE hK K E
    have hw3 : IntKind.i64.wrap ((i : Int) + vs.length) = ((i + vs.length : Nat) : Int) := by rw [wrap_i64 (by omega) (by omega)]; omega
    refine AWP.seq ?_
    refine Rgf (jn2 @hb @hw3) (fun E K hE hK => ?_)
    refine ⟨⟨by omega, by omega⟩, ?_⟩
    refine CallR.ext (over_sw over_str ty_slE_42 ty_tsz_9 rfl (by exact Ecf @hb) (fun blk e hh => ?_) ?_)
    · rw [hb] at e; injection e with e; subst e
      have h0 := congrArg List.length hh
      simp only [List.length_append, List.length_map, hfl, List.length_nil] at h0
      omega
    refine Ev ?_
    refine hK _ _ _ ?_; clear hE hK K E
    refine AWP.ifT (by exact Ec) ?_
    have hcim : ¬ cap = i + vs.length := by omega
    have hci : ¬ cap = i := by omega
    refine AWP.seqRegD [] [] [id] mixed (by kernel_rfl) (by kernel_rfl) (fun K hK => .inl ?_) (by kernel_rfl); simp -implicitDefEqProofs only [go_sem, ↓reduceIte, Nat.reduceEqDiff, Nat.reduceAdd, Nat.reduceLT, Nat.reduceLeDiff, reduceCtorEq, Int.toNat_natCast, hb, ers_lit, hw3, hcim, hci]
    refine ⟨⟨by omega, by omega⟩, ⟨by omega, by omega⟩, ?_⟩
    obtain ⟨xs, hsrc, hxs⟩ := srcA_room (cap := cap - i) (off := i * 1) (m := es.length + vs.length - i) i hb ho (by omega) rfl (by omega) (by omega)
    have hmin : min (es.length + vs.length - i) (es.length + vs.length - (i + vs.length)) = es.length - i := by omega
    refine BiD.of ?_
    refine BiK.copy (e := 9) (sz := 1) ty_slE_42 ty_tsz_9 hb rfl hsrc (by rw [hmin, hxs]; exact okEs_flat (ho.drop i) _) (by simp only [List.length_append, List.length_map, hfl]; omega) ?_
    rw [hmin, hxs]
    refine ⟨(sub_ers h id).upd (fun c e => ?_), ?_⟩
    · rw [ers_lit, if_pos rfl, hb] at e; injection e with e; subst e; exact ⟨rfl, rfl⟩
    have hBl : ((es.drop i).flatten.map Cell.p).length = (es.length - i) * 1 := by rw [List.length_map, okEs_len (ho.drop i), hdl]
    have hVl : (vs.flatten.map Cell.p).length = vs.length * 1 := by rw [List.length_map, hfv]
    have hAl : ((es.take i).flatten.map Cell.p).length = i * 1 := by rw [List.length_map, okEs_len (ho.take i), htl]
    have hfin : spl (spl (es.flatten.map .p ++ T) ((i + vs.length) * 1) ((es.drop i).flatten.map .p)) (i * 1) (vs.flatten.map .p) = (es.take i ++ (vs ++ es.drop i)).flatten.map .p ++ T.drop (vs.length * 1) := by
      rw [hsplit, List.append_assoc, spl_ins hAl.symm (by rw [hAl, hVl]; omega) (by rw [hVl]; omega), hVl, List.flatten_append, List.map_append, List.flatten_append, List.map_append, List.append_assoc, List.append_assoc]
    have hc1l : (spl (es.flatten.map .p ++ T) ((i + vs.length) * 1) ((es.drop i).flatten.map .p)).length = es.length * 1 + T.length := by
      rw [spl_length (by rw [hBl, List.length_append, List.length_map, hfl]; omega), List.length_append, List.length_map, hfl]
    generalize spl (es.flatten.map .p ++ T) ((i + vs.length) * 1) ((es.drop i).flatten.map .p) = c1 at hfin hc1l ⊢
    refine Ev ?_
    refine hK _ _ _ ?_; clear hK K
    refine Rgf @hci (fun E K hE hK => ?_)
    refine ⟨⟨by omega, by omega⟩, ?_⟩
    refine BiR.of ?_
    refine BiK.copy (e := 9) (sz := 1) (m := vs.length) (xs := vs.flatten.map .p) ty_slE_42 ty_tsz_9 (upd_same _ _ _) rfl (by simp [srcA]) (fun c hc => okEs_flat hv _ c (List.mem_of_mem_take hc)) (by simp only [hc1l]; omega) ?_
    rw [Nat.min_eq_left (by omega), List.take_of_length_le (by rw [hVl]; exact Nat.le_refl _), upd_upd]
    simp only [hfin]
    generalize hE3 : es.take i ++ (vs ++ es.drop i) = e3 at hrl ⊢
    refine Ev ?_
    refine hK _ _ _ ?_; clear hE hK K E
    refine Rk ?_
    refine AWP.ret ?_
    refine Ev ?_
    refine Ends.turn hn H hid (fun _ _ => rfl) (lowCs_app (lowCs_p _ _) (lowCs_mono (Nat.zero_le _) (lowCs_drop hT _))) (r0 := .one (.win id ver 0 (es.length + vs.length) cap))
      (by rw [show Tryz.f116.results.toList = [.tmp 6] from rfl]; exact Ec) (.one (.inl ⟨rfl, by simp [lowC, hid]⟩)) ?_
    subst hE3
    exact ⟨ver, cap, T.drop (vs.length * 1), by omega, by rw [List.length_drop]; omega, lowCs_drop hT _, by rw [hrl], rfl⟩
end Go.Proofs.YtihgnpboabpchaaGreatDoor
namespace Go.Proofs.YtihgnpboabpchaaGreatDoor
set_option linter.unusedSimpArgs false
set_option linter.unusedVariables false
set_option linter.unnecessarySimpa false
open Go Am
set_option maxRecDepth 100000
def okF (p : S) : Prop := p = [] ∨ chkN p = 0
theorem cmpM_ok (a c : S) (ha : okF a) (hc : okF c) (h : Heap) (b : Nat) : ACalls Tryz.prog 151 [StrV a, StrV c] h b 0 (fun r h' => r = IntV (cmpF a c) ∧ h' = h) := by
  refine ACalls.enter Tryz.func151 rfl (by simp [Tryz.ntmps151]) (fun ι w hn H => ?_)
  have fin : ∀ (t : Nat → AV) (n : Nat) (v : Int), t 4 = IntV v → v = cmpF a c → Am.Ends Tryz.prog ⟨Tryz.f151.ntmps, b, ι, h, w, x0⟩ Tryz.f151 0 (fun r h' => r = IntV (cmpF a c) ∧ h' = h) ⟨t, h, n⟩ := by
    intro t n v ht hv
    exact Ends.pure hn H (fun _ _ => rfl) (r0 := IntV v) (by rw [show Tryz.f151.results.toList = [.tmp 4] from rfl]; exact Ecf @ht) (.v _) ⟨by rw [hv], rfl⟩
  refine Rk ?_
  refine AWP.seq ?_
  refine AWP.block ?_
  by_cases h1 : a = c
  · have e1 : (a = c) = True := eq_true h1
    refine Rkf (jn2 @mkS_list @e1) ?_
    refine Bt ?_
    refine Rk ?_
    refine AWP.ret ?_
    refine Ev ?_
    exact fin _ _ 0 (by exact Er) (by unfold cmpF; rw [if_pos h1])
  have e1 : (a = c) = False := eq_false h1
  refine Rkf (jn2 @mkS_list @e1) ?_
  refine Bf ?_
  by_cases h2 : a = []
  · subst h2
    refine Rkf @mkS_list ?_
    refine Bt ?_
    refine Rk ?_
    refine AWP.ret ?_
    refine Ev ?_
    exact fin _ _ (-1) (by exact Er) (by unfold cmpF; rw [if_neg h1, if_pos rfl])
  have e2 : (a = []) = False := eq_false h2
  refine Rkf (jn2 @mkS_list @e2) ?_
  refine Bf ?_
  by_cases h3 : c = []
  · subst h3
    refine Rkf @mkS_list ?_
    refine Bt ?_
    refine Rk ?_
    refine AWP.ret ?_
    refine Ev ?_
    exact fin _ _ 1 (by exact Er) (by unfold cmpF; rw [if_neg h1, if_neg h2, if_pos rfl])
  have e3 : (c = []) = False := eq_false h3
  refine Rkf (jn2 @mkS_list @e3) ?_
  refine Bf ?_
  refine AWP.skip ?_
  refine Ev ?_
  have ca : chkN a = 0 := by rcases ha with e | e; exact absurd e h2; exact e
  have cc : chkN c = 0 := by rcases hc with e | e; exact absurd e h3; exact e
  have hcm : cmpN a c = (cK a c, 0) := cmpN_ok (chkN_zero.1 ca) (chkN_zero.1 cc)
  refine Rg (fun E K hE hK => ?_)
  refine Us (Cmp_ok (mkS a) (mkS c) _ _) body_119 ?_
  refine Evf (jn2 @mkS_list @hcm) ?_
  refine hK _ _ _ ?_; clear hE hK K E
  refine Rk ?_
  refine AWP.ret ?_
  exact fin _ _ (cK a c) (by exact Er) (cmpF_clean h2 h3).symm
theorem orderM_ok (k : Kn) (p : S) (hk : okF k.name) (hp : okF p) (h : Heap) (b : Nat) : ACalls Tryz.prog 101 [KnV k, StrV p] h b 0 (fun r h' => r = IntV (cmpF k.name p) ∧ h' = h) := by
  refine ACalls.enter Tryz.func101 rfl (by simp [Tryz.ntmps101]) (fun ι w hn H => ?_)
  refine Rk ?_
  refine Rg (fun E K hE hK => ?_)
  refine Us (cmpM_ok k.name p hk hp _ _) body_151 ?_
  refine hK _ _ _ ?_; clear hE hK K E
  refine AWP.ret ?_
  exact Ends.pure hn H Ou (r0 := IntV (cmpF k.name p)) (by rw [show Tryz.f101.results.toList = [.tmp 4] from rfl]; exact Er) (.v _) ⟨rfl, rfl⟩
theorem kFind_ok (l : List Kn) (p : S) (hr : Ris nmK l) (hl : l.length ≤ 1000000) (hc : ∀ x ∈ l, chkN x.name = 0) (hp : okF p) (h : Heap) (b : Nat) :
    ACalls Tryz.prog 149 [KnsV l, StrV p, .one (.clo (.func 101) [] [])] h b 0 (fun r h' => r = .tup [IntV (posK nmK p l), BoolV (getK nmK p l).isSome] ∧ h' = h) :=
  bskn_ok l (mkS p) 101 (fun k => cmpF k.name p) (posK nmK p l) hl body_101 (fun x hx h b => orderM_ok x p (.inr (hc x hx)) hp h b) (posK_le p l) (fun j hj hk => posK_lo hr j hj hk) (fun j hj hk => posK_hi hr j hj hk) _ (isK hr) h b
theorem sFind_ok (l : List S) (p : S) (hr : Ris nmS l) (hl : l.length ≤ 1000000) (hc : ∀ x ∈ l, okF x) (hp : okF p) (h : Heap) (b : Nat) :
    ACalls Tryz.prog 115 [ListV l, StrV p, .one (.clo (.func 151) [] [])] h b 0 (fun r h' => r = .tup [IntV (posK nmS p l), BoolV (getK nmS p l).isSome] ∧ h' = h) :=
  bsst_ok l (mkS p) 151 (fun k => cmpF k p) (posK nmS p l) hl body_151 (fun x hx h b => cmpM_ok x p (hc x hx) hp h b) (posK_le p l) (fun j hj hk => posK_lo hr j hj hk) (fun j hj hk => posK_hi hr j hj hk) _ (isK hr) h b
theorem view_1 {h : Heap} {D : Nat → Bool} {id : Nat} (p : PD) (ho : okPD p = true) (hD : D id = true) (hb : h id = some ⟨0, [.p p]⟩) : ViewC h D (.win id 0 0 1 1) (.p (.sl 1 [[p]])) :=
  @view_rowT h D id 0 1 1 0 0 1 [[p]] [] hD (by rw [hb]; rfl) (by intro e he; simp at he; subst he; exact ⟨rfl, by simpa using ho⟩) (by simp) rfl
theorem ins_has {l : List S} (hr : Ris nmS l) {p : S} (h : (getK nmS p l).isSome = true) : insN l p = l := by
  obtain ⟨x, hx⟩ := Option.isSome_iff_exists.1 h
  have := splitK (p := p) hr
  rw [hx, show x = p from (getK_mem hx).2] at this
  exact this.symm
theorem ins_new {l : List S} (hr : Ris nmS l) {p : S} (h : ¬ (getK nmS p l).isSome = true) : insN l p = l.take (posK nmS p l) ++ ([p] ++ l.drop (posK nmS p l)) := by
  have hn : getK nmS p l = none := by simpa using h
  rw [takeK hr, dropK hr, hn]
  rfl
theorem mput_ok (l : List S) (p : S) (most : Nat) (hr : Ris nmS l) (hl : l.length < most) (hm : most ≤ 100000) (hc : ∀ x ∈ l, okF x) (hp : okF p) (h : Heap) (b : Nat) :
    ACalls Tryz.prog 194 [ListV l, StrV p, IntV most] h b 0 (fun r h' => r = .tup [ListV (insN l p), IntV 0] ∧ h' = h) := by
  refine ACalls.enter Tryz.func194 rfl (by simp [Tryz.ntmps194]) (fun ι w hn H => ?_)
  have hlm : (l.map encS).length = l.length := List.length_map _
  have fin : ∀ (t : Nat → AV) (hh : Heap) (n : Nat), t 6 = ListV (insN l p) → t 7 = IntV 0 → (∀ id, id < b → hh id = h id) → Am.Ends Tryz.prog ⟨Tryz.f194.ntmps, b, ι, h, w, x0⟩ Tryz.f194 0 (fun r h' => r = .tup [ListV (insN l p), IntV 0] ∧ h' = h) ⟨t, hh, n⟩ := by
    intro t hh n ht ht2 ho
    exact Ends.pure hn H ho (r0 := .tup [ListV (insN l p), IntV 0]) (by rw [show Tryz.f194.results.toList = [.tmp 6, .tmp 7] from rfl]; exact Ecf (jn2 @ht @ht2)) (frz_tup2 (frzV.p _) (.v _)) ⟨rfl, rfl⟩
  refine Rk ?_
  obtain ⟨f, hf⟩ : ∃ f, (getK nmS p l).isSome = f := ⟨_, rfl⟩
  cases f
  · have hi := ins_new hr (p := p) (by rw [hf]; decide)
    have hne : ((l.length : Int) = most) = False := eq_false (by omega)
    have hkl := posK_le (nm := nmS) p l
    refine Rg (fun E K hE hK => ?_)
    refine Us (sFind_ok l p hr (by omega) hc hp _ _) body_115 ?_
    refine Evf @hf ?_
    refine hK _ _ _ ?_; clear hE hK K E
    refine AWP.seq ?_
    refine AWP.block ?_
    refine Rk ?_
    refine Bf ?_
    refine Rkf (jn2 @hlm @hne) ?_
    refine Bf ?_
    refine AWP.skip ?_
    refine Ev ?_
    refine Rg (fun E K hE hK => ?_)
    refine CallR.use (clone_str_ok (l.map encS) (okEs_str l) _ _ (by rw [hlm]; omega)) body_95 ?_
    rintro _ _ ⟨ver, cap, T, g1, g2, g3, rfl, rfl⟩
    rw [hlm] at g1 g2
    refine Evf @hlm ?_
    obtain ⟨H, hH⟩ : ∃ H, H = upd (upd h b (rowB ver (l.map encS) T)) (b + 1) ⟨0, [.p (.v (.string (mkS p)))]⟩ := ⟨_, rfl⟩
    have hH' : upd (upd h b (rowB ver (l.map encS) T)) (b + 1) ⟨0, [Cell.p (.v (.string (mkS p)))]⟩ = H := hH.symm
    have hb0 : H b = some (rowB ver (l.map encS) T) := by rw [hH]; exact Er
    have hb1 : H (b + 1) = some ⟨0, [.p (.v (.string (mkS p)))]⟩ := by rw [hH]; exact upd_same _ _ _
    have hbo : ∀ id, id < b → H id = h id := by rw [hH]; exact Ou
    rw [hH']
    have ci := insert_str_ok (l.map encS) [encS p] (okEs_str l) (okEs_str [p]) (delP H (fun i => decide (i = b + 1))) (b + 2) b ver cap (posK nmS p l) T (by omega) (by unfold delP; rw [if_neg (by simp)]; exact hb0) g3 (by rw [hlm]; exact g1) (by rw [hlm]; exact g2) (by rw [hlm]; exact hkl) (by rw [hlm]; omega) (by simp)
    rw [hlm] at ci
    have cs := ci.seal (fun i => decide (i = b + 1)) (.cons (.same _) (.cons (.same _) (.cons (.one (view_1 _ rfl (by simp) hb1)) .nil)))
    refine CallR.use cs body_116 ?_
    rintro _ _ ⟨ver', cap', T', k1, k2, k3, rfl, rfl⟩
    have hdr : (l.map encS).take (posK nmS p l) ++ ([encS p] ++ (l.map encS).drop (posK nmS p l)) = (insN l p).map encS := by rw [hi, List.map_append, List.map_append, List.map_take, List.map_drop]; rfl
    rw [hdr, List.length_map] at k1 k2
    rw [hdr, List.length_map]
    refine Ev ?_
    refine hK _ _ _ ?_; clear hE hK K E
    refine AWP.frz 6 (cap := cap') (len := (insN l p).length) (off := 0) (id := b) 1 ((insN l p).map encS) (by exact Er) (by exact Er) rfl (by rw [List.length_map]) (okEs_str _).len (row_cells (okEs_str _) ver' _) ?_
    refine AWP.ret ?_
    exact fin _ _ _ (by exact Er) (by exact Er) (fun id (hid : id < b) => by simp -implicitDefEqProofs only [go_sem, ↓reduceIte, Nat.reduceEqDiff, Nat.reduceAdd, Nat.reduceLT, Nat.reduceLeDiff, reduceCtorEq, Int.toNat_natCast, delH, delP, show ¬ id = b by omega, show ¬ id = b + 1 by omega, decide_false]; exact hbo id hid)
  · have hi := ins_has hr hf
    refine Rg (fun E K hE hK => ?_)
    refine Us (sFind_ok l p hr (by omega) hc hp _ _) body_115 ?_
    refine Evf @hf ?_
    refine hK _ _ _ ?_; clear hE hK K E
    refine AWP.seq ?_
    refine AWP.block ?_
    refine Rk ?_
    refine Bt ?_
    refine Rk ?_
    refine AWP.ret ?_
    refine Ev ?_
    exact fin _ _ _ (by exact Erf @hi) (by exact Er) (fun _ _ => rfl)
end Go.Proofs.YtihgnpboabpchaaGreatDoor
namespace Go.Proofs.YtihgnpboabpchaaGreatDoor
set_option linter.unusedSimpArgs false
set_option linter.unusedVariables false
set_option linter.unnecessarySimpa false
open Go Am
set_option maxRecDepth 100000
theorem clone_kn_ok (es : List (List PD)) (ho : okEs 3 es) (h : Heap) (b : Nat) (hl : es.length ≤ 1000000000) :
    ACalls Tryz.prog 140 [.one (.p (.sl 3 es))] h b 1 (rowR 3 es h b) := by
  refine ACalls.enter Tryz.func140 rfl (by simp [Tryz.ntmps140]) (fun ι w hn H => ?_)
  refine Rk ?_
  refine AWP.seq ?_
  refine Rg (fun E K hE hK => ?_)
  refine EqlR.nil_sl rfl (.inl rfl) (fun g hg => ?_)
  refine Ev ?_
  refine hK _ _ _ ?_; clear hE hK K E
  cases g
  · refine AWP.ifF (by exact Ec) ?_
    refine AWP.skip ?_
    refine Ev ?_
    refine Rg (fun E K hE hK => ?_)
    refine BiR.of ?_
    refine BiK.append_own (e := 99) (sz := 3) (bytes := 48) (m := es.length) (xs := es.flatten.map .p) ty_slE_26 ty_tsz_99 ty_tzero_99 rfl ty_tby_99 ty_isIntT_26 (upd_same _ _ _) rfl rfl (by simp [srcA]) (okEs_flat ho _) (by omega) (by decide) (by omega) (fun cap k h1 h2 => ?_)
    refine Ev ?_
    refine hK _ _ _ ?_; clear hE hK K E
    refine AWP.ret ?_
    refine Ev ?_
    refine Ends.row (id := b) (blk := ⟨1, es.flatten.map .p ++ List.replicate k .junk⟩) hn H (lowEq_upd (Nat.le_refl _) (fun _ _ => rfl)) (Nat.le_refl _) (upd_same _ _ _) (lowCs_app (lowCs_p _ _) (lowCs_junk _ _))
      (by rw [show Tryz.f140.results.toList = [.tmp 2] from rfl]; exact Ec) (renV.win0 _ _ _ _) ⟨1, cap, List.replicate k .junk, by omega, by rw [List.length_replicate]; omega, lowCs_junk _ _, rfl, rfl⟩
  · have he := hg rfl
    subst he
    refine AWP.ifT (by exact Ec) ?_
    refine Rk ?_
    refine AWP.virt 2 (by exact Ec) ?_
    refine AWP.ret ?_
    refine Ev ?_
    refine Ends.row (id := b) (blk := ⟨0, []⟩) hn H (lowEq_upd (Nat.le_refl _) (fun _ _ => rfl)) (Nat.le_refl _) (upd_same _ _ _) rfl
      (by rw [show Tryz.f140.results.toList = [.tmp 2] from rfl]; exact Ec) (renV.win0 _ _ _ _) ⟨0, 0, [], Nat.le_refl _, rfl, rfl, rfl, rfl⟩
end Go.Proofs.YtihgnpboabpchaaGreatDoor
namespace Go.Proofs.YtihgnpboabpchaaGreatDoor
set_option linter.unusedSimpArgs false
set_option linter.unusedVariables false
set_option linter.unnecessarySimpa false
open Go Am
set_option maxRecDepth 100000
theorem delete_kn_ok (es : List (List PD)) (ho : okEs 3 es) (h : Heap) (b id ver cap i j : Nat) (T : List Cell) (hid : id < b) (hb : h id = some (rowB ver es T)) (hT : lowCs 0 T = true) (hcap : es.length ≤ cap)
    (hc : cap * 3 = es.length * 3 + T.length) (hij : i < j) (hj : j ≤ es.length) (hl : es.length ≤ 1000000000) :
    ACalls Tryz.prog 212 [.one (.win id ver 0 es.length cap), IntV i, IntV j] h b 0 (rowR 3 (es.take i ++ es.drop j) h id) := by
  refine ACalls.enter Tryz.func212 rfl (by simp [Tryz.ntmps212]) (fun ι w hn H => ?_)
  have hlow := H.lowCells
  refine Rk ?_
  refine Rgf @hb (fun E K hE hK => ?_)
  refine ⟨⟨by omega, by omega⟩, ⟨by omega, by omega⟩, ⟨by omega, by omega⟩, ?_⟩
  refine hK _ _ _ ?_; clear hE hK K E
  refine AWP.seq ?_
  refine Rk ?_
  refine AWP.ifF (by exact Ecf (show ¬ (i : Int) = j by omega)) ?_
  refine AWP.skip ?_
  refine Ev ?_
  refine Rkf @hb ?_
  refine AWP.seqRegD [] [] [id] mixed (by kernel_rfl) (by kernel_rfl) (fun K hK => .inl ?_) (by kernel_rfl); simp -implicitDefEqProofs only [go_sem, ↓reduceIte, Nat.reduceEqDiff, Nat.reduceAdd, Nat.reduceLT, Nat.reduceLeDiff, reduceCtorEq, Int.toNat_natCast, hb, ers_lit]
  refine ⟨⟨by omega, by omega⟩, ⟨by omega, by omega⟩, ?_⟩
  have hsrc := srcA_row (cap := cap - j) (off := if cap = j then 0 else j * 3) (m := es.length - j) j hb ho (by omega) (by
    by_cases hcj : cap = j
    · rw [if_pos hcj]; exact .inr ⟨by omega, rfl⟩
    · rw [if_neg hcj]; exact .inl rfl)
  rw [List.take_of_length_le (by simp : (es.drop j).length ≤ es.length - j)] at hsrc
  have hdl : (es.drop j).length = es.length - j := by simp
  have hsp := spl_row (i := i) T ho (ho.drop j) (by omega)
  have hfl := okEs_len ho
  refine BiD.of ?_
  refine BiK.append_in (e := 99) (sz := 3) ty_slE_26 ty_tsz_99 ty_isIntT_26 hb rfl hsrc (okEs_flat (ho.drop j) _) (by omega) (by simp only [List.length_append, List.length_map, hfl]; omega) ?_
  rw [Nat.zero_add, hsp]
  refine ⟨(sub_ers h id).upd (fun b e => ?_), ?_⟩
  · rw [ers_lit, if_pos rfl, hb] at e; injection e with e; subst e; exact ⟨rfl, rfl⟩
  generalize hT1 : (es.drop (i + (es.drop j).length)).flatten.map Cell.p ++ T = T1
  have hT1l : T1.length = (es.length - (i + (es.length - j))) * 3 + T.length := by
    rw [← hT1, List.length_append, List.length_map, okEs_len (ho.drop _), List.length_drop, hdl]
  have hT1low : lowCs 0 T1 = true := by rw [← hT1]; exact lowCs_app (lowCs_p _ _) hT
  have hnl : (es.take i ++ es.drop j).length = i + (es.length - j) := by rw [List.length_append, List.length_take, hdl]; omega
  have ho2 : okEs 3 (es.take i ++ es.drop j) := (ho.take i).append (ho.drop j)
  refine Ev ?_
  refine hK _ _ _ ?_; clear hK K
  refine Rg (fun E K hE hK => ?_)
  refine ⟨⟨by omega, by omega⟩, ⟨by omega, by omega⟩, ?_⟩
  have hne : ¬ cap = i + (es.length - j) := by omega
  rw [if_neg hne]
  refine BiR.of ?_
  refine BiK.clear (e := 99) (sz := 3) ty_slE_26 ty_tzero_99 rfl (by decide) (upd_same _ _ _) rfl (by simp only [List.length_append, List.length_map, okEs_len ho2, hnl, hT1l]; omega) ?_
  rw [spl_tail (by rw [List.length_map, okEs_len ho2, hnl]), upd_upd]
  refine Ev ?_
  refine hK _ _ _ ?_; clear hE hK K E
  refine Rk ?_
  refine AWP.ret ?_
  refine Ev ?_
  refine Ends.turn hn H hid (fun _ _ => rfl) (lowCs_app (lowCs_p _ _) (lowCs_app (lowCs_repl rfl _) (lowCs_mono (Nat.zero_le _) (lowCs_drop hT1low _)))) (r0 := .one (.win id ver 0 (es.take i ++ es.drop j).length cap))
    (by rw [show Tryz.f212.results.toList = [.tmp 6] from rfl, hnl]; exact Ec) (.one (.inl ⟨rfl, by simp [lowC, hid]⟩)) ⟨ver, cap, _, by omega, ?_, ?_, rfl, rfl⟩
  · simp only [List.length_append, List.length_drop, hT1l, hnl, repl_length, List.length_map, List.length_cons, List.length_nil]
    omega
  · exact lowCs_app (lowCs_repl rfl _) (lowCs_drop hT1low _)
end Go.Proofs.YtihgnpboabpchaaGreatDoor
namespace Go.Proofs.YtihgnpboabpchaaGreatDoor
set_option linter.unusedSimpArgs false
set_option linter.unusedVariables false
set_option linter.unnecessarySimpa false
open Go Am
set_option maxRecDepth 100000
theorem over_kn : isOver Tryz.prog 228 26 4 := fun args w =>
  run_callFunc_extern (fn := Tryz.f228) Tryz.func228 (by kernel_rfl) (by kernel_rfl) (by kernel_rfl) (e := Extern.SlicesOverlaps.overlaps #[26, 26] #[4]) (by kernel_rfl) args w
set_option maxHeartbeats 1600000 in
theorem insert_kn_ok (es vs : List (List PD)) (ho : okEs 3 es) (hv : okEs 3 vs) (h : Heap) (b id ver cap i : Nat) (T : List Cell) (hid : id < b) (hb : h id = some (rowB ver es T)) (hT : lowCs 0 T = true) (hcap : es.length ≤ cap)
    (hc : cap * 3 = es.length * 3 + T.length) (hi : i ≤ es.length) (hl : es.length ≤ 1000000000) (hl2 : vs.length ≤ 1000000000) :
    ACalls Tryz.prog 213 [.one (.win id ver 0 es.length cap), IntV i, .one (.p (.sl 3 vs))] h b 0 (rowR 3 (es.take i ++ (vs ++ es.drop i)) h id) := by
  refine ACalls.enter Tryz.func213 rfl (by simp [Tryz.ntmps213]) (fun ι w hn H => ?_)
  have hlow := H.lowCells
  have hfl := okEs_len ho
  have hfv := okEs_len hv
  have htl : (es.take i).length = i := by rw [List.length_take]; omega
  have hdl : (es.drop i).length = es.length - i := by simp
  have hrl : (es.take i ++ (vs ++ es.drop i)).length = es.length + vs.length := by rw [List.length_append, List.length_append, htl, hdl]; omega
  have hsplit : es.flatten.map Cell.p = (es.take i).flatten.map .p ++ (es.drop i).flatten.map .p := by rw [← List.map_append, ← List.flatten_append, List.take_append_drop]
  refine Rk ?_
  refine Rgf @hb (fun E K hE hK => ?_)
  refine ⟨⟨by omega, by omega⟩, ?_⟩
  refine hK _ _ _ ?_; clear hE hK K E
  refine Rk ?_
  refine AWP.seq ?_
  refine Rk ?_
  by_cases hv0 : (vs.length : Int) = 0
  · refine AWP.ifT (by exact Ecf @hv0) ?_
    refine Rk ?_
    refine AWP.ret ?_
    refine Ev ?_
    have : vs = [] := List.eq_nil_of_length_eq_zero (by omega)
    subst this
    refine Ends.turn hn H hid (fun k _ => by rw [upd_self hb]) (lowCs_app (lowCs_p _ _) (lowCs_mono (Nat.zero_le _) hT)) (r0 := .one (.win id ver 0 es.length cap))
      (by rw [show Tryz.f213.results.toList = [.tmp 6] from rfl]; exact Ec) (.one (.inl ⟨rfl, by simp [lowC, hid]⟩)) ?_
    rw [List.nil_append, List.take_append_drop]
    exact ⟨ver, cap, T, hcap, hc, hT, rfl, rfl⟩
  refine AWP.ifF (by exact Ecf @hv0) ?_
  refine AWP.skip ?_
  refine Ev ?_
  refine Rkf @hb ?_
  refine AWP.seq ?_
  refine Rk ?_
  by_cases hie : (i : Int) = es.length
  · refine AWP.ifT (by exact Ecf @hie) ?_
    refine Rgf @hb (fun E K hE hK => ?_)
    have hie' : i = es.length := by omega
    subst hie'
    have htk : (rowB ver es T).cells.take (es.length * 3) = es.flatten.map .p := by rw [List.take_left' (by rw [List.length_map, hfl])]
    refine BiR.of ?_
    refine BiK.append_own (e := 99) (sz := 3) (bytes := 48) (m := vs.length) (xs := vs.flatten.map .p) ty_slE_26 ty_tsz_99 ty_tzero_99 rfl ty_tby_99 ty_isIntT_26 hb rfl (by simp only [List.length_append, List.length_map, hfl]; omega) (by simp [srcA]) (okEs_flat hv _) (by omega) (by decide) (by omega) (fun cap' k h1 h2 => ?_)
    rw [htk]
    refine Ev ?_
    refine hK _ _ _ ?_; clear hE hK K E
    refine AWP.ret ?_
    refine Ev ?_
    refine Ends.turn hn H hid (fun k _ => rfl) (lowCs_app (lowCs_p _ _) (lowCs_app (lowCs_p _ _) (lowCs_junk _ _))) (r0 := .one (.win id (ver + 1) 0 (es.length + vs.length) cap'))
      (by rw [show Tryz.f213.results.toList = [.tmp 6] from rfl]; exact Ec) (.one (.inl ⟨rfl, by simp [lowC, hid]⟩)) ?_
    have he : es.take es.length ++ (vs ++ es.drop es.length) = es ++ vs := by simp
    rw [he]
    refine ⟨ver + 1, cap', List.replicate k .junk, by rw [List.length_append]; omega, by rw [List.length_append, List.length_replicate]; omega, lowCs_junk _ _, by rw [List.length_append], ?_⟩
    rw [rowB_app]
  refine AWP.ifF (by exact Ecf @hie) ?_
  refine AWP.skip ?_
  refine Ev ?_
  refine AWP.seq ?_
  refine Rkf @hb ?_
  have hw1 : IntKind.i64.wrap ((es.length : Int) + vs.length) = ((es.length + vs.length : Nat) : Int) := by rw [wrap_i64 (by omega) (by omega)]; omega
  by_cases hgr : cap < es.length + vs.length
  · refine AWP.ifT (by exact Ecf (jn2 @hw1 (show (cap : Int) < ((es.length + vs.length : Nat) : Int) by omega))) ?_
    have hw2 : IntKind.i64.wrap (((es.length + vs.length : Nat) : Int) - i) = ((es.length + vs.length - i : Nat) : Int) := by rw [wrap_i64 (by omega) (by omega)]; omega
    refine Rgf (jn3 @hb @hw1 @hw2) (fun E K hE hK => ?_)
    refine ⟨⟨by omega, by omega⟩, ?_⟩
    have hsr := srcA_row (cap := cap) (off := 0) (m := i) 0 hb ho (by omega) (.inl (by omega))
    rw [List.drop_zero] at hsr
    have hne : ¬ id = b := by omega
    have hne' : ¬ b = id := by omega
    refine BiR.of ?_
    refine BiK.append_mk (e := 99) (sz := 3) (bytes := 48) (zs := [.string ByteArray.empty, .float .f64 0, .slice none 0 0]) ty_slE_26 ty_tsz_99 ty_tzero_99 rfl ty_tby_99 ty_intK_3 (by exact Ecf @hb) hsr (by omega) (by omega) (by decide) (by omega) (fun cap' k h1 h2 => ?_)
    have hsum : i + (es.length + vs.length - i) = es.length + vs.length := by omega
    rw [hsum] at h1 h2
    rw [rowB_zeros, hsum]
    have hz0 : okEs 3 (List.replicate (es.length + vs.length - i) (List.map PD.v [.string ByteArray.empty, .float .f64 0, .slice none 0 0])) := okEs_replicate rfl (by decide) _
    have hoz : okEs 3 (es.take i ++ List.replicate (es.length + vs.length - i) (List.map PD.v [.string ByteArray.empty, .float .f64 0, .slice none 0 0])) := (ho.take i).append hz0
    have hozl : (es.take i ++ List.replicate (es.length + vs.length - i) (List.map PD.v [.string ByteArray.empty, .float .f64 0, .slice none 0 0])).length = es.length + vs.length := by rw [List.length_append, htl, List.length_replicate]; omega
    have hoz1 : (es.take i ++ List.replicate (es.length + vs.length - i) (List.map PD.v [.string ByteArray.empty, .float .f64 0, .slice none 0 0])).take i = es.take i := by rw [List.take_append_of_le_length (by omega), List.take_of_length_le (by omega)]
    have hfz := okEs_len hoz
    rw [hozl] at hfz
    generalize es.take i ++ List.replicate (es.length + vs.length - i) (List.map PD.v [.string ByteArray.empty, .float .f64 0, .slice none 0 0]) = e1 at hoz hozl hfz hoz1 ⊢
    refine Ev ?_
    refine hK _ _ _ ?_; clear hE hK K E
    refine Rgf (show ¬ cap' = i by omega) (fun E K hE hK => ?_)
    refine ⟨⟨by omega, by omega⟩, ?_⟩
    refine BiR.of ?_
    refine BiK.copy (e := 99) (sz := 3) (m := vs.length) (xs := vs.flatten.map .p) ty_slE_26 ty_tsz_99 (upd_same _ _ _) rfl (by simp [srcA]) (fun c hc => okEs_flat hv _ c (List.mem_of_mem_take hc)) (by simp only [List.length_append, List.length_map, hfz, List.length_replicate]; omega) ?_
    rw [Nat.min_eq_left (by omega), List.take_of_length_le (by rw [List.length_map, hfv]; exact Nat.le_refl _), spl_els _ hoz hv (by omega) 0 rfl, hoz1]
    have hd2 : (es.take i ++ (vs ++ e1.drop (i + vs.length))).length = es.length + vs.length := by rw [List.length_append, List.length_append, List.length_drop, htl, hozl]; omega
    have ho2 : okEs 3 (es.take i ++ (vs ++ e1.drop (i + vs.length))) := (ho.take i).append (hv.append (hoz.drop _))
    have ho2t : (es.take i ++ (vs ++ e1.drop (i + vs.length))).take (i + vs.length) = es.take i ++ vs := by
      rw [← List.append_assoc, List.take_append_of_le_length (by rw [List.length_append, htl]; omega), List.take_of_length_le (by rw [List.length_append, htl]; omega)]
    have hf2 := okEs_len ho2
    rw [hd2] at hf2
    generalize es.take i ++ (vs ++ e1.drop (i + vs.length)) = e2 at hd2 ho2 ho2t hf2 ⊢
    refine Ev ?_
    refine hK _ _ _ ?_; clear hE hK K E
    have hw3 : IntKind.i64.wrap ((i : Int) + vs.length) = ((i + vs.length : Nat) : Int) := by rw [wrap_i64 (by omega) (by omega)]; omega
    refine AWP.seqRegD [] [] [b] mixed (by kernel_rfl) (by kernel_rfl) (fun K hK => .inl ?_) (by kernel_rfl); simp -implicitDefEqProofs only [go_sem, ↓reduceIte, Nat.reduceEqDiff, Nat.reduceAdd, Nat.reduceLT, Nat.reduceLeDiff, reduceCtorEq, Int.toNat_natCast, hb, ers_lit, hw3, hne, hne', show ¬ cap' = i + vs.length by omega]
    refine ⟨⟨by omega, by omega⟩, ⟨by omega, by omega⟩, ?_⟩
    have hsrc := srcA_row (h := upd h b (rowB 0 e2 (List.replicate k .junk))) (cap := cap - i) (off := if cap = i then 0 else i * 3) (m := es.length - i) i (by rw [upd_ne _ _ _ _ hne]; exact hb) ho (by omega) (by
      by_cases hcj : cap = i
      · rw [if_pos hcj]; exact .inr ⟨by omega, rfl⟩
      · rw [if_neg hcj]; exact .inl rfl)
    rw [List.take_of_length_le (by simp : (es.drop i).length ≤ es.length - i)] at hsrc
    refine BiD.of ?_
    refine BiK.copy (e := 99) (sz := 3) (m := es.length - i) (xs := (es.drop i).flatten.map .p) ty_slE_26 ty_tsz_99 (upd_same _ _ _) rfl hsrc (fun c hc => okEs_flat (ho.drop i) _ c (List.mem_of_mem_take hc)) (by simp only [List.length_append, List.length_map, hf2, List.length_replicate]; omega) ?_
    rw [show es.length + vs.length - (i + vs.length) = es.length - i by omega, Nat.min_self, List.take_of_length_le (by rw [List.length_map, okEs_len (ho.drop i), hdl]; exact Nat.le_refl _), upd_upd, spl_els _ ho2 (ho.drop i) (by omega) 0 rfl, ho2t,
      show e2.drop (i + vs.length + (es.drop i).length) = [] from List.drop_of_length_le (by omega), List.append_nil, List.append_assoc]
    refine ⟨Sub.reupd (sub_ers _ b) (fun c e => ?_), ?_⟩
    · rw [ers_lit, if_pos rfl, upd_same] at e; injection e with e; subst e; exact ⟨rfl, rfl⟩
    generalize hE3 : es.take i ++ (vs ++ es.drop i) = e3 at hrl ⊢
    refine Ev ?_
    refine hK _ _ _ ?_; clear hK K
    refine Rk ?_
    refine AWP.ret ?_
    refine Ev ?_
    refine Ends.move hn H hid hb (fun k hk _ => upd_ne _ _ _ _ (Nat.ne_of_lt hk)) (Nat.le_refl _) (upd_same _ _ _) rfl (lowCs_app (lowCs_p _ _) (lowCs_junk _ _)) (off := 0) (len := es.length + vs.length) (cap := cap')
      (by rw [show Tryz.f213.results.toList = [.tmp 6] from rfl]; exact Ec) ?_
    subst hE3
    exact ⟨ver + 1, cap', List.replicate k .junk, by omega, by rw [List.length_replicate]; omega, lowCs_junk _ _, by rw [hrl], rfl⟩
  · refine AWP.ifF (by exact Ecf (jn2 @hw1 (show ¬ (cap : Int) < ((es.length + vs.length : Nat) : Int) by omega))) ?_
    refine AWP.skip ?_
    refine Ev ?_
    refine Rgf (jn2 @hb @hw1) (fun E K hE hK => ?_)
    refine ⟨⟨by omega, by omega⟩, ?_⟩
    refine hK _ _ _ ?_; clear hE hK K E
    have hw3 : IntKind.i64.wrap ((i : Int) + vs.length) = ((i + vs.length : Nat) : Int) := by rw [wrap_i64 (by omega) (by omega)]; omega
    refine AWP.seq ?_
    refine Rgf (jn2 @hb @hw3) (fun E K hE hK => ?_)
    refine ⟨⟨by omega, by omega⟩, ?_⟩
    refine CallR.ext (over_sw over_kn ty_slE_26 ty_tsz_99 rfl (by exact Ecf @hb) (fun blk e hh => ?_) ?_)
    · rw [hb] at e; injection e with e; subst e
      have h0 := congrArg List.length hh
      simp only [List.length_append, List.length_map, hfl, List.length_nil] at h0
      omega
    refine Ev ?_
    refine hK _ _ _ ?_; clear hE hK K E
    refine AWP.ifT (by exact Ec) ?_
    have hcim : ¬ cap = i + vs.length := by omega
    have hci : ¬ cap = i := by omega
    refine AWP.seqRegD [] [] [id] mixed (by kernel_rfl) (by kernel_rfl) (fun K hK => .inl ?_) (by kernel_rfl); simp -implicitDefEqProofs only [go_sem, ↓reduceIte, Nat.reduceEqDiff, Nat.reduceAdd, Nat.reduceLT, Nat.reduceLeDiff, reduceCtorEq, Int.toNat_natCast, hb, ers_lit, hw3, hcim, hci]
    refine ⟨⟨by omega, by omega⟩, ⟨by omega, by omega⟩, ?_⟩
    obtain ⟨xs, hsrc, hxs⟩ := srcA_room (cap := cap - i) (off := i * 3) (m := es.length + vs.length - i) i hb ho (by omega) rfl (by omega) (by omega)
    have hmin : min (es.length + vs.length - i) (es.length + vs.length - (i + vs.length)) = es.length - i := by omega
    refine BiD.of ?_
    refine BiK.copy (e := 99) (sz := 3) ty_slE_26 ty_tsz_99 hb rfl hsrc (by rw [hmin, hxs]; exact okEs_flat (ho.drop i) _) (by simp only [List.length_append, List.length_map, hfl]; omega) ?_
    rw [hmin, hxs]
    refine ⟨(sub_ers h id).upd (fun c e => ?_), ?_⟩
    · rw [ers_lit, if_pos rfl, hb] at e; injection e with e; subst e; exact ⟨rfl, rfl⟩
    have hBl : ((es.drop i).flatten.map Cell.p).length = (es.length - i) * 3 := by rw [List.length_map, okEs_len (ho.drop i), hdl]
    have hVl : (vs.flatten.map Cell.p).length = vs.length * 3 := by rw [List.length_map, hfv]
    have hAl : ((es.take i).flatten.map Cell.p).length = i * 3 := by rw [List.length_map, okEs_len (ho.take i), htl]
    have hfin : spl (spl (es.flatten.map .p ++ T) ((i + vs.length) * 3) ((es.drop i).flatten.map .p)) (i * 3) (vs.flatten.map .p) = (es.take i ++ (vs ++ es.drop i)).flatten.map .p ++ T.drop (vs.length * 3) := by
      rw [hsplit, List.append_assoc, spl_ins hAl.symm (by rw [hAl, hVl]; omega) (by rw [hVl]; omega), hVl, List.flatten_append, List.map_append, List.flatten_append, List.map_append, List.append_assoc, List.append_assoc]
    have hc1l : (spl (es.flatten.map .p ++ T) ((i + vs.length) * 3) ((es.drop i).flatten.map .p)).length = es.length * 3 + T.length := by
      rw [spl_length (by rw [hBl, List.length_append, List.length_map, hfl]; omega), List.length_append, List.length_map, hfl]
    generalize spl (es.flatten.map .p ++ T) ((i + vs.length) * 3) ((es.drop i).flatten.map .p) = c1 at hfin hc1l ⊢
    refine Ev ?_
    refine hK _ _ _ ?_; clear hK K
    refine Rgf @hci (fun E K hE hK => ?_)
    refine ⟨⟨by omega, by omega⟩, ?_⟩
    refine BiR.of ?_
    refine BiK.copy (e := 99) (sz := 3) (m := vs.length) (xs := vs.flatten.map .p) ty_slE_26 ty_tsz_99 (upd_same _ _ _) rfl (by simp [srcA]) (fun c hc => okEs_flat hv _ c (List.mem_of_mem_take hc)) (by simp only [hc1l]; omega) ?_
    rw [Nat.min_eq_left (by omega), List.take_of_length_le (by rw [hVl]; exact Nat.le_refl _), upd_upd]
    simp only [hfin]
    generalize hE3 : es.take i ++ (vs ++ es.drop i) = e3 at hrl ⊢
    refine Ev ?_
    refine hK _ _ _ ?_; clear hE hK K E
    refine Rk ?_
    refine AWP.ret ?_
    refine Ev ?_
    refine Ends.turn hn H hid (fun _ _ => rfl) (lowCs_app (lowCs_p _ _) (lowCs_mono (Nat.zero_le _) (lowCs_drop hT _))) (r0 := .one (.win id ver 0 (es.length + vs.length) cap))
      (by rw [show Tryz.f213.results.toList = [.tmp 6] from rfl]; exact Ec) (.one (.inl ⟨rfl, by simp [lowC, hid]⟩)) ?_
    subst hE3
    exact ⟨ver, cap, T.drop (vs.length * 3), by omega, by rw [List.length_drop]; omega, lowCs_drop hT _, by rw [hrl], rfl⟩
end Go.Proofs.YtihgnpboabpchaaGreatDoor
namespace Go.Proofs.YtihgnpboabpchaaGreatDoor
set_option linter.unusedSimpArgs false
set_option linter.unusedVariables false
set_option linter.unnecessarySimpa false
open Go Am
set_option maxRecDepth 100000
theorem clone_oc_ok (es : List (List PD)) (ho : okEs 1 es) (h : Heap) (b : Nat) (hl : es.length ≤ 1000000000) :
    ACalls Tryz.prog 83 [.one (.p (.sl 1 es))] h b 1 (rowR 1 es h b) := by
  refine ACalls.enter Tryz.func83 rfl (by simp [Tryz.ntmps83]) (fun ι w hn H => ?_)
  refine Rk ?_
  refine AWP.seq ?_
  refine Rg (fun E K hE hK => ?_)
  refine EqlR.nil_sl rfl (.inl rfl) (fun g hg => ?_)
  refine Ev ?_
  refine hK _ _ _ ?_; clear hE hK K E
  cases g
  · refine AWP.ifF (by exact Ec) ?_
    refine AWP.skip ?_
    refine Ev ?_
    refine Rg (fun E K hE hK => ?_)
    refine BiR.of ?_
    refine BiK.append_own (e := 5) (sz := 1) (bytes := 1) (m := es.length) (xs := es.flatten.map .p) ty_slE_38 ty_tsz_5 ty_tzero_5 rfl ty_tby_5 ty_isIntT_38 (upd_same _ _ _) rfl rfl (by simp [srcA]) (okEs_flat ho _) (by omega) (by decide) (by omega) (fun cap k h1 h2 => ?_)
    refine Ev ?_
    refine hK _ _ _ ?_; clear hE hK K E
    refine AWP.ret ?_
    refine Ev ?_
    refine Ends.row (id := b) (blk := ⟨1, es.flatten.map .p ++ List.replicate k .junk⟩) hn H (lowEq_upd (Nat.le_refl _) (fun _ _ => rfl)) (Nat.le_refl _) (upd_same _ _ _) (lowCs_app (lowCs_p _ _) (lowCs_junk _ _))
      (by rw [show Tryz.f83.results.toList = [.tmp 2] from rfl]; exact Ec) (renV.win0 _ _ _ _) ⟨1, cap, List.replicate k .junk, by omega, by rw [List.length_replicate]; omega, lowCs_junk _ _, rfl, rfl⟩
  · have he := hg rfl
    subst he
    refine AWP.ifT (by exact Ec) ?_
    refine Rk ?_
    refine AWP.virt 2 (by exact Ec) ?_
    refine AWP.ret ?_
    refine Ev ?_
    refine Ends.row (id := b) (blk := ⟨0, []⟩) hn H (lowEq_upd (Nat.le_refl _) (fun _ _ => rfl)) (Nat.le_refl _) (upd_same _ _ _) rfl
      (by rw [show Tryz.f83.results.toList = [.tmp 2] from rfl]; exact Ec) (renV.win0 _ _ _ _) ⟨0, 0, [], Nat.le_refl _, rfl, rfl, rfl, rfl⟩
end Go.Proofs.YtihgnpboabpchaaGreatDoor
namespace Go.Proofs.YtihgnpboabpchaaGreatDoor
set_option linter.unusedSimpArgs false
set_option linter.unusedVariables false
set_option linter.unnecessarySimpa false
open Go Am
set_option maxRecDepth 100000
def idxI_str (g : FuncId) (cap : List Cell) (f : S → Bool) (xs : List S) (h : Heap) (i : Nat) (s : St) : Prop :=
  s.h = h ∧ s.t 0 = .one (.p (.sl 1 (xs.map encS))) ∧ s.t 1 = .one (.clo (.func g) [] cap) ∧ s.t 7 = IntV xs.length ∧ s.t 8 = IntV i ∧ idxFrom f 0 xs = idxFrom f i (xs.drop i)
theorem index_str_ok (g : FuncId) (cap : List Cell) (f : S → Bool) (xs : List S) (h : Heap) (b : Nat) (hg : bodyB Tryz.prog g = true) (hcap : lowCs b cap = true) (hl : xs.length ≤ 1000000000)
    (hc : ∀ x ∈ xs, ACalls Tryz.prog g (.one (.p (.v (.string (mkS x)))) :: cap.map .one) h b 0 (fun r h' => r = BoolV (f x) ∧ h' = h)) :
    ACalls Tryz.prog 120 [.one (.p (.sl 1 (xs.map encS))), .one (.clo (.func g) [] cap)] h b 0 (fun r h' => r = IntV (idxFrom f 0 xs) ∧ h' = h) := by
  refine ACalls.enter Tryz.func120 rfl (by simp [Tryz.ntmps120]) (fun ι w hn H => ?_)
  have hlow := H.lowCells
  have fin : ∀ (t : Nat → AV) (v : Int), t 4 = IntV v → v = idxFrom f 0 xs → Am.Ends Tryz.prog ⟨Tryz.f120.ntmps, b, ι, h, w, x0⟩ Tryz.f120 0 (fun r h' => r = IntV (idxFrom f 0 xs) ∧ h' = h) ⟨t, h, 0⟩ := by
    intro t v ht hv
    exact Ends.pure hn H (fun _ _ => rfl) (r0 := IntV v) (by rw [show Tryz.f120.results.toList = [.tmp 4] from rfl]; exact Ecf @ht) (.v _) ⟨by rw [hv], rfl⟩
  refine Rk ?_
  refine AWP.seq ?_
  refine Rk ?_
  refine AWP.block ?_
  refine AWP.loopUp 0 xs.length (idxI_str g cap f xs h) 0 (Nat.zero_le _) rfl ⟨rfl, ?_, ?_, ?_, ?_, ?_⟩ ?_
  · exact Ec
  · exact Ec
  · exact Ec
  · exact Er
  · rfl
  · rintro i ⟨t, hh, n⟩ hi ⟨eh, e0, e1, e7, e8, hx⟩ hn1
    simp only at eh e0 e1 e7 e8 hn1
    subst hn1
    subst eh
    refine Rgf (jn4 @e0 @e1 @e7 @e8) (fun E K hE hK => ?_)
    refine hK _ _ _ ?_; clear hE hK K E
    by_cases hlt : (i : Int) < xs.length
    · have hi2 : i < xs.length := by omega
      have hge : (xs.map encS).getD i [] = encS xs[i] := getD_map encS xs i hi2
      have hstep : idxFrom f i (xs.drop i) = if f xs[i] = true then (i : Int) else idxFrom f (i + 1) (xs.drop (i + 1)) := by
        rw [List.drop_eq_getElem_cons hi2]; rfl
      refine AWP.seq ?_
      refine AWP.ifT (by exact Ecf @hlt) ?_
      refine AWP.skip ?_
      refine Ev ?_
      refine AWP.seq ?_
      refine AWP.block ?_
      refine Rkf (jn4 @e0 @e1 @e7 @e8) ?_
      refine AWP.seqReg (by kernel_rfl) (fun E K hE hK => ?_); simp -implicitDefEqProofs only [go_sem, ↓reduceIte, Nat.reduceEqDiff, Nat.reduceAdd, Nat.reduceLT, Nat.reduceLeDiff, reduceCtorEq, Int.toNat_natCast, e0, e1, e7, e8, hlt, hge, encS]
      refine ⟨by omega, ?_⟩
      refine CallR.use (hc xs[i] (List.getElem_mem hi2)) hg ?_
      rintro _ _ ⟨rfl, rfl⟩
      refine Ev ?_
      refine hK _ _ _ ?_; clear hE hK K E
      cases hf : f xs[i] with
      | true =>
        refine AWP.ifT (by exact Ecf @hf) ?_
        refine Rk ?_
        refine AWP.ret ?_
        refine Ev ?_
        refine fin _ i (by exact Ec) ?_
        rw [hx, hstep, if_pos hf]
      | false =>
        refine AWP.ifF (by exact Ecf @hf) ?_
        refine AWP.skip ?_
        refine Ev ?_
        refine Raf @e8 (fun E K hE hK => ?_)
        refine hK _ _ _ ?_; clear hE hK K E
        refine ⟨hi2, ?_, ?_, ?_, ?_, ?_, ?_⟩
        · exact cutH_id rfl (fun _ _ => rfl) hn hlow
        · exact Ecf @e0
        · refine Evf @e1 ?_; exact cutV_clo hcap
        · exact Ecf @e7
        · refine Ev ?_; rw [wrap_i64 (by omega) (by omega)]; rfl
        · rw [hx, hstep, if_neg (by rw [hf]; simp)]
    · refine AWP.seq ?_
      refine AWP.ifF (by exact Ecf @hlt) ?_
      refine AWP.exit ?_
      refine Ev ?_
      refine Rk ?_
      refine AWP.ret ?_
      refine Ev ?_
      refine fin _ (-1) (by exact Ec) ?_
      have : i = xs.length := by omega
      subst this
      rw [hx]; simp [idxFrom]
end Go.Proofs.YtihgnpboabpchaaGreatDoor
namespace Go.Proofs.YtihgnpboabpchaaGreatDoor
set_option linter.unusedSimpArgs false
set_option linter.unusedVariables false
set_option linter.unnecessarySimpa false
open Go Am
set_option maxRecDepth 100000
theorem clone_dn_ok (es : List (List PD)) (ho : okEs 2 es) (h : Heap) (b : Nat) (hl : es.length ≤ 1000000000) :
    ACalls Tryz.prog 94 [.one (.p (.sl 2 es))] h b 1 (rowR 2 es h b) := by
  refine ACalls.enter Tryz.func94 rfl (by simp [Tryz.ntmps94]) (fun ι w hn H => ?_)
  refine Rk ?_
  refine AWP.seq ?_
  refine Rg (fun E K hE hK => ?_)
  refine EqlR.nil_sl rfl (.inl rfl) (fun g hg => ?_)
  refine Ev ?_
  refine hK _ _ _ ?_; clear hE hK K E
  cases g
  · refine AWP.ifF (by exact Ec) ?_
    refine AWP.skip ?_
    refine Ev ?_
    refine Rg (fun E K hE hK => ?_)
    refine BiR.of ?_
    refine BiK.append_own (e := 101) (sz := 2) (bytes := 32) (m := es.length) (xs := es.flatten.map .p) ty_slE_30 ty_tsz_101 ty_tzero_101 rfl ty_tby_101 ty_isIntT_30 (upd_same _ _ _) rfl rfl (by simp [srcA]) (okEs_flat ho _) (by omega) (by decide) (by omega) (fun cap k h1 h2 => ?_)
    refine Ev ?_
    refine hK _ _ _ ?_; clear hE hK K E
    refine AWP.ret ?_
    refine Ev ?_
    refine Ends.row (id := b) (blk := ⟨1, es.flatten.map .p ++ List.replicate k .junk⟩) hn H (lowEq_upd (Nat.le_refl _) (fun _ _ => rfl)) (Nat.le_refl _) (upd_same _ _ _) (lowCs_app (lowCs_p _ _) (lowCs_junk _ _))
      (by rw [show Tryz.f94.results.toList = [.tmp 2] from rfl]; exact Ec) (renV.win0 _ _ _ _) ⟨1, cap, List.replicate k .junk, by omega, by rw [List.length_replicate]; omega, lowCs_junk _ _, rfl, rfl⟩
  · have he := hg rfl
    subst he
    refine AWP.ifT (by exact Ec) ?_
    refine Rk ?_
    refine AWP.virt 2 (by exact Ec) ?_
    refine AWP.ret ?_
    refine Ev ?_
    refine Ends.row (id := b) (blk := ⟨0, []⟩) hn H (lowEq_upd (Nat.le_refl _) (fun _ _ => rfl)) (Nat.le_refl _) (upd_same _ _ _) rfl
      (by rw [show Tryz.f94.results.toList = [.tmp 2] from rfl]; exact Ec) (renV.win0 _ _ _ _) ⟨0, 0, [], Nat.le_refl _, rfl, rfl, rfl, rfl⟩
end Go.Proofs.YtihgnpboabpchaaGreatDoor
namespace Go.Proofs.YtihgnpboabpchaaGreatDoor
set_option linter.unusedSimpArgs false
set_option linter.unusedVariables false
set_option linter.unnecessarySimpa false
open Go Am
set_option maxRecDepth 100000
def idxI_dn (g : FuncId) (cap : List Cell) (f : Dn → Bool) (xs : List Dn) (h : Heap) (i : Nat) (s : St) : Prop :=
  s.h = h ∧ s.t 0 = .one (.p (.sl 2 (xs.map encD))) ∧ s.t 1 = .one (.clo (.func g) [] cap) ∧ s.t 7 = IntV xs.length ∧ s.t 8 = IntV i ∧ idxFrom f 0 xs = idxFrom f i (xs.drop i)
theorem index_dn_ok (g : FuncId) (cap : List Cell) (f : Dn → Bool) (xs : List Dn) (h : Heap) (b : Nat) (hg : bodyB Tryz.prog g = true) (hcap : lowCs b cap = true) (hl : xs.length ≤ 1000000000)
    (hc : ∀ x ∈ xs, ACalls Tryz.prog g (.agg ((encD x).map .p) :: cap.map .one) h b 0 (fun r h' => r = BoolV (f x) ∧ h' = h)) :
    ACalls Tryz.prog 103 [.one (.p (.sl 2 (xs.map encD))), .one (.clo (.func g) [] cap)] h b 0 (fun r h' => r = IntV (idxFrom f 0 xs) ∧ h' = h) := by
  refine ACalls.enter Tryz.func103 rfl (by simp [Tryz.ntmps103]) (fun ι w hn H => ?_)
  have hlow := H.lowCells
  have fin : ∀ (t : Nat → AV) (v : Int), t 4 = IntV v → v = idxFrom f 0 xs → Am.Ends Tryz.prog ⟨Tryz.f103.ntmps, b, ι, h, w, x0⟩ Tryz.f103 0 (fun r h' => r = IntV (idxFrom f 0 xs) ∧ h' = h) ⟨t, h, 0⟩ := by
    intro t v ht hv
    exact Ends.pure hn H (fun _ _ => rfl) (r0 := IntV v) (by rw [show Tryz.f103.results.toList = [.tmp 4] from rfl]; exact Ecf @ht) (.v _) ⟨by rw [hv], rfl⟩
  refine Rk ?_
  refine AWP.seq ?_
  refine Rk ?_
  refine AWP.block ?_
  refine AWP.loopUp 0 xs.length (idxI_dn g cap f xs h) 0 (Nat.zero_le _) rfl ⟨rfl, ?_, ?_, ?_, ?_, ?_⟩ ?_
  · exact Ec
  · exact Ec
  · exact Ec
  · exact Er
  · rfl
  · rintro i ⟨t, hh, n⟩ hi ⟨eh, e0, e1, e7, e8, hx⟩ hn1
    simp only at eh e0 e1 e7 e8 hn1
    subst hn1
    subst eh
    refine Rgf (jn4 @e0 @e1 @e7 @e8) (fun E K hE hK => ?_)
    refine hK _ _ _ ?_; clear hE hK K E
    by_cases hlt : (i : Int) < xs.length
    · have hi2 : i < xs.length := by omega
      have hge : (xs.map encD).getD i [] = encD xs[i] := getD_map encD xs i hi2
      have hstep : idxFrom f i (xs.drop i) = if f xs[i] = true then (i : Int) else idxFrom f (i + 1) (xs.drop (i + 1)) := by
        rw [List.drop_eq_getElem_cons hi2]; rfl
      refine AWP.seq ?_
      refine AWP.ifT (by exact Ecf @hlt) ?_
      refine AWP.skip ?_
      refine Ev ?_
      refine AWP.seq ?_
      refine AWP.block ?_
      refine Rkf (jn4 @e0 @e1 @e7 @e8) ?_
      refine AWP.seqReg (by kernel_rfl) (fun E K hE hK => ?_); simp -implicitDefEqProofs only [go_sem, ↓reduceIte, Nat.reduceEqDiff, Nat.reduceAdd, Nat.reduceLT, Nat.reduceLeDiff, reduceCtorEq, Int.toNat_natCast, e0, e1, e7, e8, hlt, hge, encD]
      refine ⟨by omega, ?_⟩
      refine CallR.use (hc xs[i] (List.getElem_mem hi2)) hg ?_
      rintro _ _ ⟨rfl, rfl⟩
      refine Ev ?_
      refine hK _ _ _ ?_; clear hE hK K E
      cases hf : f xs[i] with
      | true =>
        refine AWP.ifT (by exact Ecf @hf) ?_
        refine Rk ?_
        refine AWP.ret ?_
        refine Ev ?_
        refine fin _ i (by exact Ec) ?_
        rw [hx, hstep, if_pos hf]
      | false =>
        refine AWP.ifF (by exact Ecf @hf) ?_
        refine AWP.skip ?_
        refine Ev ?_
        refine Raf @e8 (fun E K hE hK => ?_)
        refine hK _ _ _ ?_; clear hE hK K E
        refine ⟨hi2, ?_, ?_, ?_, ?_, ?_, ?_⟩
        · exact cutH_id rfl (fun _ _ => rfl) hn hlow
        · exact Ecf @e0
        · refine Evf @e1 ?_; exact cutV_clo hcap
        · exact Ecf @e7
        · refine Ev ?_; rw [wrap_i64 (by omega) (by omega)]; rfl
        · rw [hx, hstep, if_neg (by rw [hf]; simp)]
    · refine AWP.seq ?_
      refine AWP.ifF (by exact Ecf @hlt) ?_
      refine AWP.exit ?_
      refine Ev ?_
      refine Rk ?_
      refine AWP.ret ?_
      refine Ev ?_
      refine fin _ (-1) (by exact Ec) ?_
      have : i = xs.length := by omega
      subst this
      rw [hx]; simp [idxFrom]
end Go.Proofs.YtihgnpboabpchaaGreatDoor
namespace Go.Proofs.YtihgnpboabpchaaGreatDoor
set_option linter.unusedSimpArgs false
set_option linter.unusedVariables false
set_option linter.unnecessarySimpa false
open Go Am
set_option maxRecDepth 100000
def risI (l : List S) (most : Int) (h : Heap) (i : Nat) (st : St) : Prop :=
  st.h = h ∧ st.t 0 = ListV l ∧ st.t 1 = IntV most ∧ st.t 9 = ListV l ∧ st.t 10 = IntV l.length ∧ st.t 11 = IntV (i : Nat) ∧ riseF none l = riseF (if i = 0 then none else l[i - 1]?) (l.drop i)
theorem rises_ok (l : List S) (most : Nat) (hl : l.length ≤ 1000000) (h : Heap) (b : Nat) : ACalls Tryz.prog 102 [ListV l, IntV most] h b 0 (fun r h' => r = BoolV (risesX l most) ∧ h' = h) := by
  refine ACalls.enter Tryz.func102 rfl (by simp [Tryz.ntmps102]) (fun ι w hn H => ?_)
  have fin : ∀ (t : Nat → AV) (n : Nat) (v : Bool), t 4 = BoolV v → v = risesX l most → Am.Ends Tryz.prog ⟨Tryz.f102.ntmps, b, ι, h, w, x0⟩ Tryz.f102 0 (fun r h' => r = BoolV (risesX l most) ∧ h' = h) ⟨t, h, n⟩ := by
    intro t n v ht hv
    exact Ends.pure hn H (fun _ _ => rfl) (r0 := BoolV v) (by rw [show Tryz.f102.results.toList = [.tmp 4] from rfl]; exact Ecf @ht) (.v _) ⟨by rw [hv], rfl⟩
  refine Rk ?_
  refine AWP.seq ?_
  refine Rk ?_
  refine AWP.block ?_
  refine AWP.loopK 0 (fun m st => ∃ i, i ≤ l.length ∧ m = l.length - i ∧ risI l most h i st) l.length rfl ⟨0, Nat.zero_le _, rfl, rfl, by exact Er, by exact Er, by exact Er, by exact Er, by exact Er, rfl⟩ ?_
  rintro m ⟨t, hh, n⟩ ⟨i, hi, rfl, rfl, e0, e1, e9, e10, e11, hr⟩ hn1
  simp only at e0 e1 e9 e10 e11 hn1
  subst hn1
  have hw1 : IntKind.i64.wrap ((i : Int) + 1) = ((i + 1 : Nat) : Int) := by rw [wrap_i64 (by omega) (by omega)]; rfl
  refine Rkf (jn2 @e10 @e11) ?_
  refine AWP.seq ?_
  by_cases hlt : (i : Int) < l.length
  · refine Btf @hlt ?_
    refine AWP.skip ?_
    refine Ev ?_
    refine AWP.seq ?_
    refine AWP.block ?_
    have hi2 : i < l.length := by omega
    obtain ⟨p, hp⟩ : ∃ p, l[i] = p := ⟨_, rfl⟩
    have hge : (l.map encS).getD i [] = [.v (.string (mkS p))] := by rw [encS_getD _ i hi2, hp]
    have hdr : l.drop i = p :: l.drop (i + 1) := by rw [List.drop_eq_getElem_cons hi2, hp]
    have hpi : l[i]? = some p := by rw [List.getElem?_eq_getElem hi2, hp]
    refine Rgf (jn4 @e9 @e11 @hlt @hge) (fun E K hE hK => ?_)
    refine ⟨by omega, ?_⟩
    refine hK _ _ _ ?_; clear hE hK K E
    refine AWP.seq ?_
    refine Rg (fun E K hE hK => ?_)
    refine Us (Check_ok (mkS p) _ _) body_31 ?_
    refine Evf @mkS_list ?_
    refine hK _ _ _ ?_; clear hE hK K E
    by_cases hc : chkN p = 0
    · refine Bsf @hc ?_
      refine AWP.seq ?_
      refine Rk ?_
      by_cases h0 : i = 0
      · subst h0
        have h0' : ((0 : Nat) : Int) = 0 := rfl
        refine Btf @h0' ?_
        refine AWP.exit ?_
        refine Ev ?_
        refine Raf (jn2 @e11 @hw1) (fun E K hE hK => ?_); refine hK _ _ _ ?_; clear hE hK K E
        refine ⟨rfl, _, ?_, 1, by omega, rfl, rfl, by exact Ecf @e0, by exact Ecf @e1, by exact Ecf @e9, by exact Ecf @e10, by exact Er, ?_⟩
        · omega
        · rw [hr, hdr, if_pos rfl, if_neg (by decide), hpi]
          show (decide (chkN p = 0) && (true && _)) = _
          rw [decide_eq_true hc]; simp
      · have h0' : ¬ (i : Int) = 0 := by omega
        refine Bsf @h0' ?_
        rw [if_neg h0, hdr] at hr
        have hi3 : i - 1 < l.length := by omega
        obtain ⟨q, hq⟩ : ∃ q, l[i - 1] = q := ⟨_, rfl⟩
        have hqi : l[i - 1]? = some q := by rw [List.getElem?_eq_getElem hi3, hq]
        rw [hqi] at hr
        have hge2 : (l.map encS).getD (i - 1) [] = [.v (.string (mkS q))] := by rw [encS_getD _ (i - 1) hi3, hq]
        have hwm : IntKind.i64.wrap ((i : Int) - 1) = ((i - 1 : Nat) : Int) := by rw [wrap_i64 (by omega) (by omega)]; omega
        have hlt2 : ((i - 1 : Nat) : Int) < l.length := by omega
        have hr2 : riseF none l = ((decide ((cmpN q p).2 = 0) && decide ((cmpN q p).1 < 0)) && riseF (some p) (l.drop (i + 1))) := by
          rw [hr]
          show (decide (chkN p = 0) && _) = _
          rw [decide_eq_true hc, Bool.true_and]
        obtain ⟨c, e, hce⟩ : ∃ c e, cmpN q p = (c, e) := ⟨_, _, rfl⟩
        rw [hce] at hr2
        simp only at hr2
        refine Rgf (jn5 @e0 @e11 @hwm @hlt2 @hge2) (fun E K hE hK => ?_)
        refine ⟨by omega, ?_⟩
        refine Us (Cmp_ok (mkS q) (mkS p) _ _) body_119 ?_
        refine Evf (jn2 @mkS_list @hce) ?_
        refine hK _ _ _ ?_; clear hE hK K E
        by_cases he : e = 0
        · by_cases hc0 : 0 ≤ c
          · refine Rkf (jn2 @he @hc0) ?_
            refine Bt ?_
            refine Rk ?_
            refine AWP.ret ?_
            refine Ev ?_
            exact fin _ _ false (by exact Er) (by unfold risesX; rw [hr2, decide_eq_false (show ¬ c < 0 by omega)]; simp)
          · refine Rkf (jn2 @he @hc0) ?_
            refine Bf ?_
            refine AWP.skip ?_
            refine Ev ?_
            refine Raf (jn2 @e11 @hw1) (fun E K hE hK => ?_); refine hK _ _ _ ?_; clear hE hK K E
            refine ⟨rfl, _, ?_, i + 1, by omega, rfl, rfl, by exact Ecf @e0, by exact Ecf @e1, by exact Ecf @e9, by exact Ecf @e10, by exact Er, ?_⟩
            · omega
            · rw [hr2, decide_eq_true he, decide_eq_true (show c < 0 by omega), if_neg (by omega), Nat.add_sub_cancel, hpi]; rfl
        · refine Rkf @he ?_
          refine Bt ?_
          refine Rk ?_
          refine AWP.ret ?_
          refine Ev ?_
          exact fin _ _ false (by exact Er) (by unfold risesX; rw [hr2, decide_eq_false he]; simp)
    · refine Btf @hc ?_
      refine Rk ?_
      refine AWP.ret ?_
      refine Ev ?_
      refine fin _ _ false (by exact Er) ?_
      unfold risesX
      have : riseF none l = false := by
        rw [← Bool.not_eq_true]
        intro hT
        exact hc (riseF_mem hT p (by rw [← hp]; exact List.getElem_mem hi2))
      rw [this]; rfl
  · refine Bff @hlt ?_
    refine AWP.exit ?_
    refine Ev ?_
    have hil : i = l.length := by omega
    refine Rkf (jn2 @e0 @e1) ?_
    refine AWP.ret ?_
    refine fin _ _ (decide ((l.length : Int) ≤ most)) (by exact Er) ?_
    unfold risesX
    rw [hr, hil, List.drop_length]
    have : ∀ q : Option S, riseF q [] = true := fun q => by cases q <;> rfl
    rw [this, Bool.true_and]
    exact decide_eq_decide.2 (by omega)
def ixsI (xs : List S) (p : S) (h : Heap) (i : Nat) (st : St) : Prop :=
  st.h = h ∧ st.t 0 = ListV xs ∧ st.t 1 = StrV p ∧ st.t 7 = IntV xs.length ∧ st.t 8 = IntV (i : Nat) ∧ idxFrom (fun q => decide (p = q)) 0 xs = idxFrom (fun q => decide (p = q)) i (xs.drop i)
theorem indexStr_ok (xs : List S) (p : S) (hl : xs.length ≤ 1000000) (h : Heap) (b : Nat) : ACalls Tryz.prog 150 [ListV xs, StrV p] h b 0 (fun r h' => r = IntV (idxFrom (fun q => decide (p = q)) 0 xs) ∧ h' = h) := by
  refine ACalls.enter Tryz.func150 rfl (by simp [Tryz.ntmps150]) (fun ι w hn H => ?_)
  have fin : ∀ (t : Nat → AV) (n : Nat) (v : Int), t 4 = IntV v → v = idxFrom (fun q => decide (p = q)) 0 xs → Am.Ends Tryz.prog ⟨Tryz.f150.ntmps, b, ι, h, w, x0⟩ Tryz.f150 0 (fun r h' => r = IntV (idxFrom (fun q => decide (p = q)) 0 xs) ∧ h' = h) ⟨t, h, n⟩ := by
    intro t n v ht hv
    exact Ends.pure hn H (fun _ _ => rfl) (r0 := IntV v) (by rw [show Tryz.f150.results.toList = [.tmp 4] from rfl]; exact Ecf @ht) (.v _) ⟨by rw [hv], rfl⟩
  refine Rk ?_
  refine AWP.seq ?_
  refine Rk ?_
  refine AWP.block ?_
  refine AWP.loopK 0 (fun m st => ∃ i, i ≤ xs.length ∧ m = xs.length - i ∧ ixsI xs p h i st) xs.length rfl ⟨0, Nat.zero_le _, rfl, rfl, by exact Er, by exact Er, by exact Er, by exact Er, rfl⟩ ?_
  rintro m ⟨t, hh, n⟩ ⟨i, hi, rfl, rfl, e0, e1, e7, e8, hx⟩ hn1
  simp only at e0 e1 e7 e8 hn1
  subst hn1
  have hw1 : IntKind.i64.wrap ((i : Int) + 1) = ((i + 1 : Nat) : Int) := by rw [wrap_i64 (by omega) (by omega)]; rfl
  refine Rkf (jn2 @e7 @e8) ?_
  refine AWP.seq ?_
  by_cases hlt : (i : Int) < xs.length
  · refine Btf @hlt ?_
    refine AWP.skip ?_
    refine Ev ?_
    refine AWP.seq ?_
    refine AWP.block ?_
    refine Rkf @e8 ?_
    have hi2 : i < xs.length := by omega
    have hstep : idxFrom (fun q => decide (p = q)) i (xs.drop i) = if decide (p = xs[i]) = true then (i : Int) else idxFrom (fun q => decide (p = q)) (i + 1) (xs.drop (i + 1)) := by
      rw [List.drop_eq_getElem_cons hi2]; rfl
    refine AWP.seqReg (by kernel_rfl) (fun E K hE hK => ?_); simp -implicitDefEqProofs only [go_sem, ↓reduceIte, Nat.reduceEqDiff, Nat.reduceAdd, Nat.reduceLT, Nat.reduceLeDiff, reduceCtorEq, Int.toNat_natCast, e0, e1, List.length_map, hlt, encS_getD xs i hi2]
    refine ⟨by omega, ?_⟩
    refine hK _ _ _ ?_; clear hE hK K E
    by_cases hp : p = xs[i]
    · rw [if_pos (decide_eq_true hp)] at hstep
      have hd : (p = xs[i]) = True := eq_true hp
      refine Btf (jn2 @mkS_list @hd) ?_
      refine Rk ?_
      refine AWP.ret ?_
      refine Ev ?_
      exact fin _ _ _ (by exact Er) (by rw [hx, hstep])
    · rw [if_neg (by simp [hp])] at hstep
      have hd : (p = xs[i]) = False := eq_false hp
      refine Bff (jn2 @mkS_list @hd) ?_
      refine AWP.skip ?_
      refine Ev ?_
      refine Raf (jn2 @e8 @hw1) (fun E K hE hK => ?_); refine hK _ _ _ ?_; clear hE hK K E
      exact ⟨rfl, xs.length - (i + 1), by omega, i + 1, by omega, rfl, rfl, by exact Ecf @e0, by exact Ecf @e1, by exact Ecf @e7, by exact Er, by rw [hx, hstep]⟩
  · refine Bff @hlt ?_
    refine AWP.exit ?_
    refine Ev ?_
    refine Rk ?_
    refine AWP.ret ?_
    refine fin _ _ (-1) (by exact Er) ?_
    have : i = xs.length := by omega
    subst this
    rw [hx]; simp [idxFrom]
theorem containsStr_ok (xs : List S) (p : S) (hl : xs.length ≤ 1000000) (h : Heap) (b : Nat) : ACalls Tryz.prog 100 [ListV xs, StrV p] h b 0 (fun r h' => r = BoolV (xs.any (fun q => decide (q = p))) ∧ h' = h) := by
  refine ACalls.enter Tryz.func100 rfl (by simp [Tryz.ntmps100]) (fun ι w hn H => ?_)
  refine Rk ?_
  refine Rg (fun E K hE hK => ?_)
  refine Us (indexStr_ok xs p hl _ _) body_150 ?_
  refine hK _ _ _ ?_; clear hE hK K E
  refine AWP.ret ?_
  have e : decide (0 ≤ idxFrom (fun q => decide (p = q)) 0 xs) = xs.any (fun q => decide (q = p)) := by
    rw [Bool.eq_iff_iff, decide_eq_true_eq, (idxFrom_any _ xs 0).1]
    simp only [List.any_eq_true, decide_eq_true_eq]
    constructor <;> rintro ⟨x, h1, h2⟩ <;> exact ⟨x, h1, h2.symm⟩
  exact Ends.pure hn H (fun _ _ => rfl) (r0 := BoolV (xs.any (fun q => decide (q = p)))) (by rw [show Tryz.f100.results.toList = [.tmp 4] from rfl, ← e]; exact Er) (.v _) ⟨rfl, rfl⟩
theorem containsF_ok (g : FuncId) (cap : List Cell) (f : S → Bool) (xs : List S) (h : Heap) (b : Nat) (hg : bodyB Tryz.prog g = true) (hcap : lowCs b cap = true) (hl : xs.length ≤ 1000000)
    (hc : ∀ x ∈ xs, ACalls Tryz.prog g (StrV x :: cap.map .one) h b 0 (fun r h' => r = BoolV (f x) ∧ h' = h)) :
    ACalls Tryz.prog 210 [ListV xs, .one (.clo (.func g) [] cap)] h b 0 (fun r h' => r = BoolV (xs.any f) ∧ h' = h) := by
  refine ACalls.enter Tryz.func210 rfl (by simp [Tryz.ntmps210]) (fun ι w hn H => ?_)
  refine Rk ?_
  refine Rg (fun E K hE hK => ?_)
  refine Us (index_str_ok g cap f xs _ _ hg hcap (by omega) hc) body_120 ?_
  refine hK _ _ _ ?_; clear hE hK K E
  refine AWP.ret ?_
  have e : decide (0 ≤ idxFrom f 0 xs) = xs.any f := by
    rw [Bool.eq_iff_iff, decide_eq_true_eq]; exact (idxFrom_any _ xs 0).1
  exact Ends.pure hn H (fun _ _ => rfl) (r0 := BoolV (xs.any f)) (by rw [show Tryz.f210.results.toList = [.tmp 4] from rfl, ← e]; exact Er) (.v _) ⟨rfl, rfl⟩
abbrev inD (p dir : S) : Bool := decide ((withinN dir p).2 = 0) && (withinN dir p).1
theorem touch2_ok (dir p : S) (h : Heap) (b bx : Nat) (hb : h bx = some (sB (mkS p))) : ACalls Tryz.prog 231 [StrV dir, .one (.ptr bx 0 0)] h b 0 (fun r h' => r = BoolV (inD p dir) ∧ h' = h) := by
  refine ACalls.enter Tryz.func231 rfl (by simp [Tryz.ntmps231]) (fun ι w hn H => ?_)
  have fin : ∀ (t : Nat → AV) (n : Nat) (v : Bool), t 3 = BoolV v → v = inD p dir → Am.Ends Tryz.prog ⟨Tryz.f231.ntmps, b, ι, h, w, x0⟩ Tryz.f231 0 (fun r h' => r = BoolV (inD p dir) ∧ h' = h) ⟨t, h, n⟩ := by
    intro t n v ht hv
    exact Ends.pure hn H (fun _ _ => rfl) (r0 := BoolV v) (by rw [show Tryz.f231.results.toList = [.tmp 3] from rfl]; exact Ecf @ht) (.v _) ⟨by rw [hv], rfl⟩
  obtain ⟨i, e, hie⟩ : ∃ i e, withinN dir p = (i, e) := ⟨_, _, rfl⟩
  refine Rk ?_
  refine Rgf @hb (fun E K hE hK => ?_)
  refine Us (Within_ok (mkS dir) (mkS p) _ _) body_69 ?_
  refine Evf (jn2 @mkS_list @hie) ?_
  refine hK _ _ _ ?_; clear hE hK K E
  by_cases he : e = 0
  · cases i
    · refine Rkf @he ?_
      refine AWP.ret ?_
      exact fin _ _ false (by exact Er) (by unfold inD; rw [hie]; simp)
    · refine Rkf @he ?_
      refine AWP.ret ?_
      exact fin _ _ true (by exact Er) (by unfold inD; rw [hie]; simp [he])
  · refine Rkf @he ?_
    refine AWP.ret ?_
    exact fin _ _ false (by exact Er) (by unfold inD; rw [hie]; simp [he])
abbrev rB (rn rd : List S) : Blk := ⟨0, [.p (.sl 1 (rn.map encS)), .p (.sl 1 (rd.map encS))]⟩
theorem touch1_ok (rn rd : List S) (p : S) (hn1 : rn.length ≤ 1000000) (hd1 : rd.length ≤ 1000000) (h : Heap) (b bx : Nat) (hlt : bx < b) (hb : h bx = some (rB rn rd)) :
    ACalls Tryz.prog 230 [StrV p, .one (.ptr bx 0 0)] h b 0 (fun r h' => r = BoolV (hitX1 rn rd p) ∧ h' = h) := by
  refine ACalls.enter Tryz.func230 rfl (by simp [Tryz.ntmps230]) (fun ι w hn H => ?_)
  have fin : ∀ (t : Nat → AV) (hh : Heap) (n : Nat) (v : Bool), t 3 = BoolV v → (∀ id, id < b → hh id = h id) → v = hitX1 rn rd p → Am.Ends Tryz.prog ⟨Tryz.f230.ntmps, b, ι, h, w, x0⟩ Tryz.f230 0 (fun r h' => r = BoolV (hitX1 rn rd p) ∧ h' = h) ⟨t, hh, n⟩ := by
    intro t hh n v ht ho hv
    exact Ends.pure hn H ho (r0 := BoolV v) (by rw [show Tryz.f230.results.toList = [.tmp 3] from rfl]; exact Ecf @ht) (.v _) ⟨by rw [hv], rfl⟩
  have hne : ¬ bx = b := by omega
  refine Rk ?_
  cases hx : rn.any (fun q => decide (q = p))
  · refine Rgf (jn2 @hb @hne) (fun E K hE hK => ?_)
    refine Us (containsStr_ok rn p hn1 _ _) body_100 ?_
    refine Evf (jn3 @hx @hb @hne) ?_
    refine Us (containsF_ok 231 [.ptr b 0 0] (inD p) rd _ _ body_231 (by simp [lowCs, lowC]) hd1 (fun dir _ => touch2_ok dir p _ _ b (by exact Er))) body_210 ?_
    refine hK _ _ _ ?_; clear hE hK K E
    refine AWP.ret ?_
    exact fin _ _ _ _ (by exact Er) Ou (by unfold hitX1; rw [hx, Bool.false_or])
  · refine Rgf (jn2 @hb @hne) (fun E K hE hK => ?_)
    refine Us (containsStr_ok rn p hn1 _ _) body_100 ?_
    refine Evf (jn3 @hx @hb @hne) ?_
    refine hK _ _ _ ?_; clear hE hK K E
    refine AWP.ret ?_
    exact fin _ _ _ true (by exact Er) Ou (by unfold hitX1; rw [hx, Bool.true_or])
theorem touch_ok (rn rd names : List S) (hn1 : rn.length ≤ 1000000) (hd1 : rd.length ≤ 1000000) (hl : names.length ≤ 1000000) (h : Heap) (b : Nat) :
    ACalls Tryz.prog 215 [ReadsV rn rd, ListV names] h b 0 (fun r h' => r = BoolV (touchX rn rd names) ∧ h' = h) := by
  refine ACalls.enter Tryz.func215 rfl (by simp [Tryz.ntmps215]) (fun ι w hn H => ?_)
  refine Rk ?_
  refine Rg (fun E K hE hK => ?_)
  refine Us (containsF_ok 230 [.ptr b 0 0] (hitX1 rn rd) names _ _ body_230 (by simp [lowCs, lowC]) hl (fun p _ => touch1_ok rn rd p hn1 hd1 _ _ b (Nat.lt_succ_self _) (by exact Er))) body_210 ?_
  refine hK _ _ _ ?_; clear hE hK K E
  refine AWP.ret ?_
  exact Ends.pure hn H Ou (r0 := BoolV (touchX rn rd names)) (by rw [show Tryz.f215.results.toList = [.tmp 4] from rfl]; exact Er) (.v _) ⟨rfl, rfl⟩
end Go.Proofs.YtihgnpboabpchaaGreatDoor
namespace Go.Proofs.YtihgnpboabpchaaGreatDoor
set_option linter.unusedSimpArgs false
set_option linter.unusedVariables false
set_option linter.unnecessarySimpa false
open Go Am
set_option maxRecDepth 100000
def ckI (l : List Dn) (h : Heap) (b i : Nat) (st : St) : Prop :=
  ∃ last : Int, (∀ id, id < b → st.h id = h id) ∧ st.t 3 = U64V last ∧ st.t 9 = DonesV l ∧ st.t 10 = IntV l.length ∧ st.t 11 = IntV (i : Nat) ∧ ckF 0 l = ckF last (l.drop i)
def sizeD (l : List Dn) : Prop := l.length ≤ 1000000 ∧ ∀ d ∈ l, d.names.length ≤ 1000000
theorem vCheck_ok (l : List Dn) (hl : sizeD l) (h : Heap) (b : Nat) : ACalls Tryz.prog 45 [DonesV l] h b 0 (fun r h' => r = IntV (checkX l) ∧ h' = h) := by
  refine ACalls.enter Tryz.func45 rfl (by simp [Tryz.ntmps45]) (fun ι w hn H => ?_)
  have hlow := H.lowCells
  have fin : ∀ (t : Nat → AV) (hh : Heap) (n : Nat) (v : Int), t 2 = IntV v → (∀ id, id < b → hh id = h id) → v = checkX l → Am.Ends Tryz.prog ⟨Tryz.f45.ntmps, b, ι, h, w, x0⟩ Tryz.f45 0 (fun r h' => r = IntV (checkX l) ∧ h' = h) ⟨t, hh, n⟩ := by
    intro t hh n v ht ho hv
    exact Ends.pure hn H ho (r0 := IntV v) (by rw [show Tryz.f45.results.toList = [.tmp 2] from rfl]; exact Ecf @ht) (.v _) ⟨by rw [hv], rfl⟩
  have hl1 := hl.1
  refine Rk ?_
  refine AWP.seq ?_
  refine Rk ?_
  by_cases h1 : (1024 : Int) < l.length
  · refine Btf @h1 ?_
    refine Rk ?_
    refine AWP.ret ?_
    refine Ev ?_
    exact fin _ _ _ 1 (by exact Er) (fun _ _ => rfl) (by unfold checkX; rw [if_pos (by omega)])
  refine Bsf @h1 ?_
  have hcx : checkX l = if ckF 0 l = true then 0 else 1 := by unfold checkX; rw [if_neg (by omega)]
  refine Rk ?_
  refine AWP.seq ?_
  refine Rk ?_
  refine AWP.block ?_
  refine AWP.loopM 0 (fun m st => ∃ i, i ≤ l.length ∧ m = l.length - i ∧ ckI l h b i st) l.length rfl ⟨0, Nat.zero_le _, rfl, 0, fun _ _ => rfl, by exact Er, by exact Er, by exact Er, by exact Er, rfl⟩ ?_
  rintro m ⟨t, hh, n⟩ ⟨i, hi, rfl, last, ho, e3, e9, e10, e11, hc⟩ hn1
  simp only at ho e3 e9 e10 e11 hn1
  subst hn1
  have hw1 : IntKind.i64.wrap ((i : Int) + 1) = ((i + 1 : Nat) : Int) := by rw [wrap_i64 (by omega) (by omega)]; rfl
  refine Rkf (jn2 @e10 @e11) ?_
  refine AWP.seq ?_
  by_cases hlt : (i : Int) < l.length
  · refine Btf @hlt ?_
    refine AWP.skip ?_
    refine Ev ?_
    refine AWP.seq ?_
    refine AWP.block ?_
    have hi2 : i < l.length := by omega
    obtain ⟨d, hd⟩ : ∃ d, l[i] = d := ⟨_, rfl⟩
    have hdm : d ∈ l := by rw [← hd]; exact List.getElem_mem hi2
    have hge : (l.map encD).getD i [] = [.v (.int .u64 d.gen), .sl 1 (d.names.map encS)] := by rw [encD_getD l i hi2, hd]
    have hstep : ckF 0 l = (decide (last < d.gen) && (decide (d.gen ≤ 1099511627776) && (risesX d.names 256 && ckF d.gen (l.drop (i + 1))))) := by
      rw [hc, List.drop_eq_getElem_cons hi2, hd]; rfl
    refine Rgf (jn4 @e9 @e11 @hlt @hge) (fun E K hE hK => ?_)
    refine ⟨by omega, ?_⟩
    refine hK _ _ _ ?_; clear hE hK K E
    refine AWP.seq ?_
    by_cases c1 : d.gen ≤ last
    · refine Rkf (jn2 @e3 @c1) ?_
      refine Bt ?_
      refine Rk ?_
      refine AWP.ret ?_
      refine Ev ?_
      exact fin _ _ _ 1 (by exact Er) (Ouf @ho) (by rw [hcx, hstep, decide_eq_false (show ¬ last < d.gen by omega)]; rfl)
    by_cases c2 : (1099511627776 : Int) < d.gen
    · refine Rkf (jn3 @e3 @c1 @c2) ?_
      refine Bt ?_
      refine Rk ?_
      refine AWP.ret ?_
      refine Ev ?_
      exact fin _ _ _ 1 (by exact Er) (Ouf @ho) (by rw [hcx, hstep, decide_eq_false (show ¬ d.gen ≤ 1099511627776 by omega)]; simp)
    cases c3 : risesX d.names 256
    · refine Rgf (jn3 @e3 @c1 @c2) (fun E K hE hK => ?_)
      refine Us (rises_ok d.names 256 (hl.2 d hdm) _ _) body_102 ?_
      refine Evf @c3 ?_
      refine hK _ _ _ ?_; clear hE hK K E
      refine Bt ?_
      refine Rk ?_
      refine AWP.ret ?_
      refine Ev ?_
      exact fin _ _ _ 1 (by exact Er) (Ouf @ho) (by rw [hcx, hstep, c3]; simp)
    · refine Rgf (jn3 @e3 @c1 @c2) (fun E K hE hK => ?_)
      refine Us (rises_ok d.names 256 (hl.2 d hdm) _ _) body_102 ?_
      refine Evf @c3 ?_
      refine hK _ _ _ ?_; clear hE hK K E
      refine Bs ?_
      refine Ra (fun E K hE hK => ?_); refine hK _ _ _ ?_; clear hE hK K E
      refine Ev ?_
      refine Raf (jn2 @e11 @hw1) (fun E K hE hK => ?_); refine hK _ _ _ ?_; clear hE hK K E
      refine ⟨l.length - (i + 1), by omega, i + 1, by omega, rfl, d.gen, cutH_outer (Nat.le_refl _) (Ouf @ho) hlow, by exact Er, by exact Ecf @e9, by exact Ecf @e10, by exact Er, ?_⟩
      rw [hstep, c3, decide_eq_true (show last < d.gen by omega), decide_eq_true (show d.gen ≤ 1099511627776 by omega)]; simp
  · refine Bff @hlt ?_
    refine AWP.exit ?_
    refine Ev ?_
    refine Rk ?_
    refine AWP.ret ?_
    refine fin _ _ _ 0 (by exact Er) ho ?_
    have : i = l.length := by omega
    subst this
    rw [hcx, hc, List.drop_length]; rfl
theorem vMay_ok (rn rd : List S) (hn1 : rn.length ≤ 1000000) (hd1 : rd.length ≤ 1000000) (h : Heap) (b : Nat) : ACalls Tryz.prog 86 [ReadsV rn rd] h b 0 (fun r h' => r = IntV (mayX rn rd) ∧ h' = h) := by
  refine ACalls.enter Tryz.func86 rfl (by simp [Tryz.ntmps86]) (fun ι w hn H => ?_)
  have fin : ∀ (t : Nat → AV) (hh : Heap) (n : Nat) (v : Int), t 2 = IntV v → (∀ id, id < b → hh id = h id) → v = mayX rn rd → Am.Ends Tryz.prog ⟨Tryz.f86.ntmps, b, ι, h, w, x0⟩ Tryz.f86 0 (fun r h' => r = IntV (mayX rn rd) ∧ h' = h) ⟨t, hh, n⟩ := by
    intro t hh n v ht ho hv
    exact Ends.pure hn H ho (r0 := IntV v) (by rw [show Tryz.f86.results.toList = [.tmp 2] from rfl]; exact Ecf @ht) (.v _) ⟨by rw [hv], rfl⟩
  refine Rk ?_
  refine Rk ?_
  refine AWP.mid (fun st => st.n = 1 ∧ st.h b = some (rB rn rd) ∧ (∀ id, id < b → st.h id = h id) ∧ st.t 1 = .one (.ptr b 0 0) ∧ st.t 3 = ListV (dirsX rd)) ?_ ?_
  · match rd with
    | [] =>
      have h0 : ¬ (0 : Int) < ((0 : Nat) : Int) := by decide
      refine Rkf @h0 ?_
      refine Bf ?_
      refine AWP.skip ?_
      refine Ev ?_
      exact ⟨rfl, Ou, by exact Er⟩
    | p :: ds =>
      have h0 : (0 : Int) < ((ds.length + 1 : Nat) : Int) := by omega
      have hge : ((p :: ds).map encS).getD 0 [] = [.v (.string (mkS p))] := rfl
      refine Rgf @h0 (fun E K hE hK => ?_)
      refine ⟨by decide, ?_⟩
      have hge : (encS p :: List.map encS ds).getD (Int.toNat 0) [] = [.v (.string (mkS p))] := rfl
      refine Evf (jn2 @hge @mkS_list) ?_
      refine hK _ _ _ ?_; clear hE hK K E
      by_cases hp : p = []
      · subst hp
        refine Btf @toL0 ?_
        have hsl : List.take (ds.length + 1 - Int.toNat 1) (List.drop (Int.toNat 1) (encS [] :: List.map encS ds)) = List.map encS ds := by
          show List.take (ds.length + 1 - 1) (List.map encS ds) = _
          rw [Nat.add_sub_cancel, List.take_of_length_le (by simp)]
        refine Raf @hsl (fun E K hE hK => ?_)
        refine ⟨⟨by decide, by omega⟩, ?_⟩
        refine hK _ _ _ ?_; clear hE hK K E
        exact ⟨rfl, by exact Er, Ou, by exact Er, by exact Er⟩
      · refine Bff (jn2 @hp @toL0) ?_
        have hdx : dirsX (p :: ds) = p :: ds := by
          cases p with
          | nil => exact absurd rfl hp
          | cons c p => rfl
        refine AWP.skip ⟨rfl, by exact Er, Ou, by exact Er, ?_⟩
        rw [hdx]
        exact Er
  · rintro ⟨t, hh, n⟩ ⟨hn0, hb, ho, e1, e3⟩
    simp only at hn0 hb ho e1 e3
    subst hn0
    refine AWP.seq ?_
    by_cases c1 : (1024 : Int) < rd.length
    · refine Rkf (jn3 @e1 @hb @c1) ?_
      refine Bt ?_
      refine Rk ?_
      refine AWP.ret ?_
      refine Ev ?_
      exact fin _ _ _ 1 (by exact Er) ho (by unfold mayX; rw [if_neg (fun e => by omega)])
    cases c2 : risesX rn 1024
    · refine Rgf (jn3 @e1 @hb @c1) (fun E K hE hK => ?_)
      refine Us (rises_ok rn 1024 hn1 _ _) body_102 ?_
      refine Evf @c2 ?_
      refine hK _ _ _ ?_; clear hE hK K E
      refine Bt ?_
      refine Rk ?_
      refine AWP.ret ?_
      refine Ev ?_
      exact fin _ _ _ 1 (by exact Er) ho (by unfold mayX; rw [if_neg (fun e => by rw [c2] at e; exact absurd e.2.1 (by decide))])
    have hdl : (dirsX rd).length ≤ 1000000 := by
      match rd with
      | [] => simp [dirsX]
      | [] :: ds => simp [dirsX] at hd1 ⊢; omega
      | (_ :: _) :: ds => simpa [dirsX] using hd1
    cases c3 : risesX (dirsX rd) 1024
    · refine Rgf (jn3 @e1 @hb @c1) (fun E K hE hK => ?_)
      refine Us (rises_ok rn 1024 hn1 _ _) body_102 ?_
      refine Evf (jn2 @c2 @e3) ?_
      refine Us (rises_ok (dirsX rd) 1024 hdl _ _) body_102 ?_
      refine Evf @c3 ?_
      refine hK _ _ _ ?_; clear hE hK K E
      refine Bt ?_
      refine Rk ?_
      refine AWP.ret ?_
      refine Ev ?_
      exact fin _ _ _ 1 (by exact Er) ho (by unfold mayX; rw [if_neg (fun e => by rw [c3] at e; exact absurd e.2.2 (by decide))])
    · refine Rgf (jn3 @e1 @hb @c1) (fun E K hE hK => ?_)
      refine Us (rises_ok rn 1024 hn1 _ _) body_102 ?_
      refine Evf (jn2 @c2 @e3) ?_
      refine Us (rises_ok (dirsX rd) 1024 hdl _ _) body_102 ?_
      refine Evf @c3 ?_
      refine hK _ _ _ ?_; clear hE hK K E
      refine Bs ?_
      refine Rk ?_
      refine AWP.ret ?_
      exact fin _ _ _ 0 (by exact Er) ho (by unfold mayX; rw [if_pos ⟨by omega, c2, c3⟩])
end Go.Proofs.YtihgnpboabpchaaGreatDoor
namespace Go.Proofs.YtihgnpboabpchaaGreatDoor
set_option linter.unusedSimpArgs false
set_option linter.unusedVariables false
set_option linter.unnecessarySimpa false
open Go Am
set_option maxRecDepth 100000
theorem clash1_ok (d : Dn) (begin : Int) (rn rd : List S) (hn1 : rn.length ≤ 1000000) (hd1 : rd.length ≤ 1000000) (hl : d.names.length ≤ 1000000) (h : Heap) (b bx by_ : Nat) (hlt : bx < b ∧ by_ < b)
    (hb : h bx = some ⟨0, [.p (.v (.int .u64 begin))]⟩) (hb2 : h by_ = some (rB rn rd)) :
    ACalls Tryz.prog 214 [DoneV d, .one (.ptr bx 0 0), .one (.ptr by_ 0 0)] h b 0 (fun r h' => r = BoolV (hitD begin rn rd d) ∧ h' = h) := by
  refine ACalls.enter Tryz.func214 rfl (by simp [Tryz.ntmps214]) (fun ι w hn H => ?_)
  have fin : ∀ (t : Nat → AV) (hh : Heap) (n : Nat) (v : Bool), t 4 = BoolV v → (∀ id, id < b → hh id = h id) → v = hitD begin rn rd d → Am.Ends Tryz.prog ⟨Tryz.f214.ntmps, b, ι, h, w, x0⟩ Tryz.f214 0 (fun r h' => r = BoolV (hitD begin rn rd d) ∧ h' = h) ⟨t, hh, n⟩ := by
    intro t hh n v ht ho hv
    exact Ends.pure hn H ho (r0 := BoolV v) (by rw [show Tryz.f214.results.toList = [.tmp 4] from rfl]; exact Ecf @ht) (.v _) ⟨by rw [hv], rfl⟩
  have n1 : ¬ bx = b := by omega
  have n2 : ¬ by_ = b := by omega
  refine Rk ?_
  by_cases c1 : begin < d.gen
  · refine Rgf (jn5 @hb @hb2 @n1 @n2 @c1) (fun E K hE hK => ?_)
    refine Us (touch_ok rn rd d.names hn1 hd1 hl _ _) body_215 ?_
    refine hK _ _ _ ?_; clear hE hK K E
    refine AWP.ret ?_
    exact fin _ _ _ (touchX rn rd d.names) (by exact Er) Ou (by unfold hitD; rw [decide_eq_true c1, Bool.true_and])
  · refine Rkf (jn5 @hb @hb2 @n1 @n2 @c1) ?_
    refine AWP.ret ?_
    exact fin _ _ _ false (by exact Er) Ou (by unfold hitD; rw [decide_eq_false c1, Bool.false_and])
theorem vClash_ok (l : List Dn) (begin : Int) (rn rd : List S) (hl : sizeD l) (hn1 : rn.length ≤ 1000000) (hd1 : rd.length ≤ 1000000) (h : Heap) (b : Nat) :
    ACalls Tryz.prog 192 [DonesV l, U64V begin, ReadsV rn rd] h b 0 (fun r h' => r = .tup [U64V (clashR l begin rn rd).1, IntV (clashR l begin rn rd).2] ∧ h' = h) := by
  refine ACalls.enter Tryz.func192 rfl (by simp [Tryz.ntmps192]) (fun ι w hn H => ?_)
  have fin : ∀ (t : Nat → AV) (hh : Heap) (n : Nat) (v : Int × Int), t 6 = U64V v.1 → t 7 = IntV v.2 → (∀ id, id < b → hh id = h id) → v = clashR l begin rn rd → Am.Ends Tryz.prog ⟨Tryz.f192.ntmps, b, ι, h, w, x0⟩ Tryz.f192 0 (fun r h' => r = .tup [U64V (clashR l begin rn rd).1, IntV (clashR l begin rn rd).2] ∧ h' = h) ⟨t, hh, n⟩ := by
    intro t hh n v ht ht2 ho hv
    exact Ends.pure hn H ho (r0 := .tup [U64V v.1, IntV v.2]) (by rw [show Tryz.f192.results.toList = [.tmp 6, .tmp 7] from rfl]; exact Ecf (jn2 @ht @ht2)) (frz_tup2 (.v _) (.v _)) ⟨by rw [hv], rfl⟩
  refine Rk ?_
  refine AWP.seq ?_
  by_cases c1 : checkX l = 0
  case neg =>
    refine Rg (fun E K hE hK => ?_)
    refine Us (vCheck_ok l hl _ _) body_45 ?_
    refine Evf @c1 ?_
    refine hK _ _ _ ?_; clear hE hK K E
    refine Bt ?_
    refine Rk ?_
    refine AWP.ret ?_
    refine Ev ?_
    exact fin _ _ _ (0, 1) (by exact Er) (by exact Er) Ou (by unfold clashR; rw [if_pos (.inl c1)])
  by_cases c2 : mayX rn rd = 0
  case neg =>
    refine Rg (fun E K hE hK => ?_)
    refine Us (vCheck_ok l hl _ _) body_45 ?_
    refine Evf @c1 ?_
    refine Us (vMay_ok rn rd hn1 hd1 _ _) body_86 ?_
    refine Evf @c2 ?_
    refine hK _ _ _ ?_; clear hE hK K E
    refine Bt ?_
    refine Rk ?_
    refine AWP.ret ?_
    refine Ev ?_
    exact fin _ _ _ (0, 1) (by exact Er) (by exact Er) Ou (by unfold clashR; rw [if_pos (.inr c2)])
  refine Rg (fun E K hE hK => ?_)
  refine Us (vCheck_ok l hl _ _) body_45 ?_
  refine Evf @c1 ?_
  refine Us (vMay_ok rn rd hn1 hd1 _ _) body_86 ?_
  refine Evf @c2 ?_
  refine hK _ _ _ ?_; clear hE hK K E
  refine Bs ?_
  refine Rg (fun E K hE hK => ?_)
  refine Us (index_dn_ok 214 [.ptr b 0 0, .ptr (b + 1) 0 0] (hitD begin rn rd) l _ _ body_214 (by simp [lowCs, lowC]) (by have := hl.1; omega) (fun d hd => clash1_ok d begin rn rd hn1 hd1 (hl.2 d hd) _ _ b (b + 1) ⟨Nat.lt_add_of_pos_right (by decide), Nat.lt_succ_self _⟩ (by exact Er) (by exact Er))) body_103 ?_
  refine hK _ _ _ ?_; clear hE hK K E
  refine AWP.seq ?_
  have hcl := clashR_ok (begin := begin) (rn := rn) (rd := rd) c1 c2
  rcases idxFrom_find (hitD begin rn rd) l 0 with ⟨h1, h2⟩ | ⟨j, hj, h1, h2⟩
  · rw [h2] at hcl
    refine Rk ?_
    refine Btf @h1 ?_
    refine Rk ?_
    refine AWP.ret ?_
    refine Ev ?_
    exact fin _ _ _ (0, 0) (by exact Er) (by exact Er) Ou hcl.symm
  · rw [h2] at hcl
    have h1 : idxFrom (hitD begin rn rd) 0 l = (j : Int) := by rw [h1]; simp
    have hlj := hl.1
    have h0 : ¬ (j : Int) < 0 := by omega
    have hjl : (j : Int) < l.length := by omega
    refine Rkf @h1 ?_
    refine Bsf @h0 ?_
    refine AWP.seqReg (by kernel_rfl) (fun E K hE hK => ?_); simp -implicitDefEqProofs only [go_sem, ↓reduceIte, Nat.reduceEqDiff, Nat.reduceAdd, Nat.reduceLT, Nat.reduceLeDiff, reduceCtorEq, Int.toNat_natCast, List.length_map, hjl, encD_getD l j hj]
    refine ⟨by omega, ?_⟩
    refine hK _ _ _ ?_; clear hE hK K E
    refine AWP.ret ?_
    exact fin _ _ _ (l[j].gen, 9) (by exact Er) (by exact Er) Ou hcl.symm
def fewN (l : List S) : Bool := l.all (fun p => decide (p.length ≤ 200)) && decide (l.length ≤ 30)
def fewNI (l : List S) (h : Heap) (i : Nat) (st : St) : Prop :=
  st.h = h ∧ st.t 0 = ListV l ∧ st.t 5 = ListV l ∧ st.t 6 = IntV l.length ∧ st.t 7 = IntV (i : Nat) ∧ ∀ p ∈ l.take i, p.length ≤ 200
def fewD (l : List Dn) : Bool := l.all (fun d => fewN d.names) && (decide (l.length ≤ 30) || (decide (1024 ≤ l.length) && decide (l.length ≤ 1026)))
def fewDI (l : List Dn) (h : Heap) (b i : Nat) (st : St) : Prop :=
  (∀ id, id < b → st.h id = h id) ∧ st.t 0 = DonesV l ∧ st.t 5 = DonesV l ∧ st.t 6 = IntV l.length ∧ st.t 7 = IntV (i : Nat) ∧ ∀ d ∈ l.take i, fewN d.names = true
end Go.Proofs.YtihgnpboabpchaaGreatDoor
namespace Go.Proofs
set_option linter.unusedSimpArgs false
set_option linter.unusedVariables false
set_option linter.unnecessarySimpa false
open Go Go.RowKit
set_option maxRecDepth 100000
theorem Tryz.clip_raw (a : Option Addr) (n c : Nat) (hc : n ≤ c) (hn : a = none → c = 0) (hz : n ≤ 4611686018427387904) (w : World) :
    Calls Tryz.prog 216 #[.slice a n c] w fun e w' => e = .returned (.slice a n n) ∧ w' = w := by
  go_enter Tryz.func216, Tryz.ntmps216
  go_wp2
  go_ret
  exact ⟨rfl, rfl⟩
end Go.Proofs
namespace Go.Proofs.YtihgnpboabpchaaGreatDoor
set_option linter.unusedSimpArgs false
set_option linter.unusedVariables false
set_option linter.unnecessarySimpa false
open Go Am
set_option maxRecDepth 100000
theorem Am.ACalls.rowFrz {P : Program} {f : FuncId} {args : List AV} {h : Heap} {b sz : Nat} {es : List (List PD)} (c : ACalls P f args h b 1 (rowR sz es h b)) (ho : okEs sz es) : ACalls P f args h b 0 (fun r h' => r = .one (.p (.sl sz es)) ∧ h' = h) := by
  intro ι w vs hb hh ha
  refine (ACalls.freeze c ?_) ι w vs hb hh ha
  rintro r h' ⟨ver, cap, T, h1, h2, h3, rfl, rfl⟩
  refine ⟨_, .one (frz_row0 (Nat.le_refl _) (upd_same _ _ _) ho), ⟨rfl, ?_⟩, fun id hid blk e c hc => ?_⟩
  · exact lowH_eq (fun id hid => by rw [upd_ne _ _ _ _ (by omega)]) hb
  · rw [upd_ne _ _ _ _ (by omega)] at e
    exact hh.lowCells id blk e c hc
theorem clip_ok (es : List (List PD)) (hl : es.length ≤ 1000000) (h : Heap) (b : Nat) : ACalls Tryz.prog 216 [.one (.p (.sl 2 es))] h b 0 (fun r h' => r = .one (.p (.slc 2 es)) ∧ h' = h) := by
  refine ACalls.ofBelow (fun ι w vs H ha => ?_)
  obtain ⟨hl1, hv⟩ := ha
  match vs, hl1 with
  | [v0], _ =>
    have r0 := hv 0 _ v0 rfl rfl
    cases r0 with
    | one hc => cases hc with
      | p hd => cases hd with
        | sl a cap U h1 h2 h3 h4 h5 h6 =>
          refine (Tryz.clip_raw a es.length cap h1 h2 (by omega) w).mono ?_
          rintro e w' ⟨rfl, rfl⟩
          exact ⟨_, rfl, RowKit.Below.refl _ _, .one (.p (.slc (.sl a es.length U (Nat.le_refl _) (fun hn => by have := h2 hn; omega) h3 h4 h5 h6)))⟩
theorem same_cell {L : List Cell} {k : Nat} {c : Cell} (h : L[k]? = some c) : List.take k L ++ c :: List.drop (k + 1) L = L := by
  have hk := (List.getElem?_eq_some_iff.1 h)
  obtain ⟨hlt, he⟩ := hk
  rw [← he, ← List.drop_eq_getElem_cons hlt, List.take_append_drop]
def ownI (l : List Dn) (ver cap : Nat) (T : List Cell) (h : Heap) (b i : Nat) (st : St) : Prop :=
  st.h b = some (rowB ver (l.map encD) T) ∧ (∀ id, id < b → st.h id = h id) ∧ st.t 0 = .one (.win b ver 0 l.length cap) ∧ st.t 7 = .one (.win b ver 0 l.length cap) ∧ st.t 8 = IntV l.length ∧ st.t 9 = IntV (i : Nat)
theorem own_ok (l : List Dn) (hl : sizeD l) (h : Heap) (b : Nat) : ACalls Tryz.prog 217 [DonesV l] h b 1 (rowR 2 (l.map encD) h b) := by
  refine ACalls.enter Tryz.func217 rfl (by simp [Tryz.ntmps217]) (fun ι w hn H => ?_)
  have hlow := H.lowCells
  have hl1 := hl.1
  have hlm : (l.map encD).length = l.length := List.length_map _
  refine Rk ?_
  refine Rg (fun E K hE hK => ?_)
  refine CallR.use (clone_dn_ok (l.map encD) (okEs_dn l) _ _ (by omega)) body_94 ?_
  rintro _ _ ⟨ver, cap, T, h1, h2, h3, rfl, rfl⟩
  rw [hlm] at h1 h2 ⊢
  refine Ev ?_
  refine hK _ _ _ ?_; clear hE hK K E
  refine AWP.seq ?_
  refine Rk ?_
  have hcl : ∀ i, (hi : i < l.length) → ((l.map encD).flatten.map Cell.p ++ T)[i * 2 + 1]? = some (.p (.sl 1 (l[i].names.map encS))) ∧ List.take 2 (List.drop (i * 2) ((l.map encD).flatten.map Cell.p ++ T)) = (encD l[i]).map .p := by
    intro i hi
    have he : (l.map encD)[i]? = some (encD l[i]) := by rw [List.getElem?_map, List.getElem?_eq_getElem hi]; rfl
    refine ⟨?_, row_part T (okEs_dn l) he⟩
    have := row_cells (okEs_dn l) ver T i (encD l[i]) he 1 (.sl 1 (l[i].names.map encS)) rfl
    rwa [Nat.zero_add] at this
  have hcl2 : ((l.map encD).flatten.map Cell.p ++ T).length = l.length * 2 + T.length := by rw [List.length_append, List.length_map, okEs_len (okEs_dn l), hlm]
  refine AWP.block ?_
  refine AWP.loopM 1 (fun m st => ∃ i, i ≤ l.length ∧ m = l.length - i ∧ ownI l ver cap T h b i st) l.length rfl ⟨0, Nat.zero_le _, rfl, by exact Er, Ou, by exact Er, by exact Er, by exact Er, by exact Er⟩ ?_
  rintro m ⟨t, hh, n⟩ ⟨i, hi, rfl, hb, ho, e0, e7, e8, e9⟩ hn1
  simp only at hb ho e0 e7 e8 e9 hn1
  subst hn1
  refine Rkf (jn2 @e8 @e9) ?_
  refine AWP.seq ?_
  by_cases hlt : (i : Int) < l.length
  · have hw1 : IntKind.i64.wrap ((i : Int) + 1) = ((i + 1 : Nat) : Int) := by rw [wrap_i64 (by omega) (by omega)]; rfl
    have hi2 : i < l.length := by omega
    obtain ⟨hc1, hc2⟩ := hcl i hi2
    obtain ⟨d, hd⟩ : ∃ d, l[i] = d := ⟨_, rfl⟩
    rw [hd] at hc1 hc2
    have hdm : d ∈ l := by rw [← hd]; exact List.getElem_mem hi2
    have hb' : hh b = some ⟨ver, (l.map encD).flatten.map Cell.p ++ T⟩ := hb
    generalize hL : (l.map encD).flatten.map Cell.p ++ T = L at hb' hc1 hc2 hcl2
    have hc2' : List.take 2 (List.drop (0 + i * 2) L) = [.p (.v (.int .u64 d.gen)), .p (.sl 1 (d.names.map encS))] := by rw [Nat.zero_add]; exact hc2
    have hle : 0 + i * 2 + 2 ≤ L.length := by omega
    refine Btf @hlt ?_
    refine AWP.skip ?_
    refine Ev ?_
    refine AWP.seq ?_
    refine AWP.block ?_
    refine Rgf (jn6 @e7 @e9 @hb' @hlt @hc2 @hc2') (fun E K hE hK => ?_)
    refine ⟨by omega, by omega, ?_⟩
    refine hK _ _ _ ?_; clear hE hK K E
    refine Raf (jn3 @e0 @hb' @hlt) (fun E K hE hK => ?_)
    refine Us ((clone_str_ok (d.names.map encS) (okEs_str d.names) _ _ (by rw [List.length_map]; have := hl.2 d hdm; omega)).rowFrz (okEs_str d.names)) body_95 ?_
    refine Evf (jn3 @e0 @hb' @hlt) ?_
    refine ⟨by omega, by omega, ?_⟩
    have hsc := same_cell hc1
    rw [hsc]
    refine hK _ _ _ ?_; clear hE hK K E
    refine Ev ?_
    refine Raf (jn2 @e9 @hw1) (fun E K hE hK => ?_); refine hK _ _ _ ?_; clear hE hK K E
    refine ⟨(by decide : 1 ≤ 2), l.length - (i + 1), by omega, i + 1, by omega, rfl, ?_, cutH_outer (Nat.le_succ _) (Ouf @ho) hlow, by refine Evf @e0 ?_; exact cutV_win (Nat.lt_succ_self _), by refine Evf @e7 ?_; exact cutV_win (Nat.lt_succ_self _), by exact Ecf @e8, by exact Er⟩
    rw [← hL]
    exact cutH_same (Nat.lt_succ_self _) (by exact Er) (lowCs_app (lowCs_p _ _) (lowCs_mono (Nat.zero_le _) h3))
  · refine Bff @hlt ?_
    refine AWP.exit ?_
    refine Ev ?_
    refine Rkf @e0 ?_
    refine AWP.ret ?_
    refine Ends.row (id := b) (blk := rowB ver (l.map encD) T) hn H ho (Nat.le_refl _) hb (lowCs_app (lowCs_p _ _) (lowCs_mono (Nat.zero_le _) h3)) (r0 := .one (.win b ver 0 l.length cap)) (by rw [show Tryz.f217.results.toList = [.tmp 2] from rfl]; exact Er) (renV.win0 _ _ _ _) ⟨ver, cap, T, by omega, by omega, h3, by rw [hlm], rfl⟩
theorem lastG_get (l : List Dn) (hne : l ≠ []) : lastG l = (l[l.length - 1]'(by have := List.length_pos_iff.2 hne; omega)).gen := by
  unfold lastG
  rw [List.getLast?_eq_some_getLast hne]
  simp only [List.getLast_eq_getElem]
theorem vAdd_ok (l : List Dn) (gen : Int) (names : List S) (hl : sizeD l) (hl9 : l.length ≤ 100000) (hnm : names.length ≤ 1000000) (h : Heap) (b : Nat) :
    ACalls Tryz.prog 193 [DonesV l, U64V gen, ListV names] h b 0 (fun r h' => r = .tup [DonesV (addR l gen names).1, IntV (addR l gen names).2] ∧ h' = h) := by
  refine ACalls.enter Tryz.func193 rfl (by simp [Tryz.ntmps193]) (fun ι w hn H => ?_)
  have hl1 := hl.1
  have fin : ∀ (t : Nat → AV) (hh : Heap) (n : Nat) (e : Int), t 6 = .one (.p (.v (.slice none 0 0))) → t 7 = IntV e → (∀ id, id < b → hh id = h id) → ([], e) = addR l gen names → Am.Ends Tryz.prog ⟨Tryz.f193.ntmps, b, ι, h, w, x0⟩ Tryz.f193 0 (fun r h' => r = .tup [DonesV (addR l gen names).1, IntV (addR l gen names).2] ∧ h' = h) ⟨t, hh, n⟩ := by
    intro t hh n e ht ht2 ho hv
    exact Ends.pure hn H ho (r0 := .tup [.one (.p (.v (.slice none 0 0))), IntV e]) (by rw [show Tryz.f193.results.toList = [.tmp 6, .tmp 7] from rfl]; exact Ecf (jn2 @ht @ht2)) (frz_tup2 (.one (frz_nil 2)) (.v _)) ⟨by rw [← hv]; rfl, rfl⟩
  refine Rk ?_
  refine Rg (fun E K hE hK => ?_)
  refine Us (clip_ok (l.map encD) (by rw [List.length_map]; exact hl1) _ _) body_216 ?_
  refine BiR.of ?_
  refine BiK.append_slc (e := 101) (sz := 2) (bytes := 32) (m := 1) (ys := (encD ⟨gen, names⟩).map .p) ty_slE_30 ty_tsz_101 ty_tzero_101 rfl ty_tby_101 ty_isIntT_30 (by (first | (simp -implicitDefEqProofs only [go_sem, ↓reduceIte, Nat.reduceEqDiff, Nat.reduceAdd, Nat.reduceLT, Nat.reduceLeDiff, reduceCtorEq, Int.toNat_natCast, srcA]; first | done | rfl) | rfl)) (by decide) (by rw [List.length_map]; omega) (by decide) (by rw [List.length_map]; omega) (fun cap' r q1 q2 => ?_)
  rw [List.length_map] at q1 q2 ⊢
  refine Ev ?_
  refine hK _ _ _ ?_; clear hE hK K E
  obtain ⟨d, hd⟩ : ∃ d : Dn, (⟨gen, names⟩ : Dn) = d := ⟨_, rfl⟩
  have hm : (l ++ [d]).length = l.length + 1 := by simp
  have hrow : ∀ hh : Heap, upd hh (b + 1) ⟨0, (l.map encD).flatten.map Cell.p ++ (.p (.v (.int .u64 gen)) :: .p (.sl 1 (names.map encS)) :: List.replicate r .junk)⟩ = upd hh (b + 1) (rowB 0 ((l ++ [d]).map encD) (List.replicate r .junk)) := by
    intro hh
    rw [← hd]
    congr 1
    simp [encD]
  rw [hrow]
  refine AWP.frz 8 (cap := cap') (len := l.length + 1) (off := 0) (id := b + 1) 2 ((l ++ [d]).map encD) (by exact Er) (by exact Er) rfl (by rw [List.length_map, hm]) (okEs_dn _).len (row_cells (okEs_dn _) 0 _) ?_
  have hsz : sizeD (l ++ [d]) := ⟨by rw [hm]; omega, fun x hx => by
    rcases List.mem_append.1 hx with hx | hx
    · exact hl.2 x hx
    · simp at hx; subst hx; rw [← hd]; exact hnm⟩
  have hsz1 : sizeD [d] := ⟨by simp, fun x hx => hsz.2 x (by simp at hx; subst hx; simp)⟩
  have out : ∀ id, id < b → delH (upd (upd h b ⟨0, [.p (.v (.int .u64 gen)), .p (.sl 1 (names.map encS))]⟩) (b + 1) (rowB 0 ((l ++ [d]).map encD) (List.replicate r .junk))) (b + 1) id = h id := fun id hid => by
    simp -implicitDefEqProofs only [go_sem, ↓reduceIte, Nat.reduceEqDiff, Nat.reduceAdd, Nat.reduceLT, Nat.reduceLeDiff, reduceCtorEq, Int.toNat_natCast, delH, show ¬ id = b by omega, show ¬ id = b + 1 by omega]
  generalize delH (upd (upd h b ⟨0, [.p (.v (.int .u64 gen)), .p (.sl 1 (names.map encS))]⟩) (b + 1) (rowB 0 ((l ++ [d]).map encD) (List.replicate r .junk))) (b + 1) = hh at out ⊢
  have hsl : List.take ((l ++ [d]).length - l.length) (List.drop l.length ((l ++ [d]).map encD)) = [d].map encD := by
    rw [List.map_append, List.drop_left' (by simp), hm, Nat.add_sub_cancel_left]; rfl
  have hbn : (0 : Int) ≤ l.length ∧ (l.length : Int) ≤ (l ++ [d]).length := by rw [hm]; omega
  refine AWP.seq ?_
  refine AWP.block ?_
  have hlm : (List.map encD l).length = l.length := List.length_map _
  have hlm2 : (List.map encD (l ++ [d])).length = (l ++ [d]).length := List.length_map _
  have hadd : addR l gen names = if checkX l ≠ 0 ∨ checkX [d] ≠ 0 ∨ (l ≠ [] ∧ gen ≤ lastG l) then ([], 1) else if l.length = 1024 then ([], 6) else (l ++ [d], 0) := by unfold addR; rw [hd]
  by_cases c1 : checkX l = 0
  case neg =>
    refine Rg (fun E K hE hK => ?_)
    refine Us (vCheck_ok l hl _ _) body_45 ?_
    refine Evf @c1 ?_
    refine hK _ _ _ ?_; clear hE hK K E
    refine Bt ?_
    refine Rk ?_
    refine AWP.ret ?_
    refine Ev ?_
    exact fin _ _ _ 1 (by exact Er) (by exact Er) out (by rw [hadd, if_pos (.inl c1)])
  by_cases c2 : checkX [d] = 0
  case neg =>
    refine Rg (fun E K hE hK => ?_)
    refine Us (vCheck_ok l hl _ _) body_45 ?_
    refine Evf (jn4 @c1 @hlm @hlm2 @hsl) ?_
    refine ⟨hbn, ?_⟩
    refine Us (vCheck_ok [d] hsz1 _ _) body_45 ?_
    refine Evf @c2 ?_
    refine hK _ _ _ ?_; clear hE hK K E
    refine Bt ?_
    refine Rk ?_
    refine AWP.ret ?_
    refine Ev ?_
    exact fin _ _ _ 1 (by exact Er) (by exact Er) out (by rw [hadd, if_pos (.inr (.inl c2))])
  refine AWP.mid (fun s' => s'.h = hh ∧ s'.n = 2 ∧ s'.t 0 = DonesV l ∧ s'.t 8 = DonesV (l ++ [d]) ∧ s'.t 16 = BoolV (decide (l ≠ [] ∧ gen ≤ lastG l))) ?_ ?_
  · by_cases hne : l = []
    · have h0 : ¬ (0 : Int) < l.length := by rw [hne]; decide
      refine Ra (fun E K hE hK => ?_)
      refine Us (vCheck_ok l hl _ _) body_45 ?_
      refine Evf (jn4 @c1 @hlm @hlm2 @hsl) ?_
      refine ⟨hbn, ?_⟩
      refine Us (vCheck_ok [d] hsz1 _ _) body_45 ?_
      refine Evf (jn3 @c2 @hlm @h0) ?_
      refine hK _ _ _ ?_; clear hE hK K E
      refine ⟨rfl, rfl, by exact Er, by exact Er, ?_⟩
      rw [decide_eq_false (fun e => e.1 hne)]
      exact Er
    · have hpos := List.length_pos_iff.2 hne
      have h0 : (0 : Int) < l.length := by omega
      have hwm : IntKind.i64.wrap ((l.length : Int) - 1) = ((l.length - 1 : Nat) : Int) := by rw [wrap_i64 (by omega) (by omega)]; omega
      have hlt : ((l.length - 1 : Nat) : Int) < l.length := by omega
      have hge := encD_getD l (l.length - 1) (by omega)
      have hlg := lastG_get l hne
      rw [← hlg] at hge
      have fin2 : decide (gen ≤ lastG l) = decide (l ≠ [] ∧ gen ≤ lastG l) := by
        rw [decide_eq_decide]; exact ⟨fun e => ⟨hne, e⟩, fun e => e.2⟩
      refine Ra (fun E K hE hK => ?_)
      refine Us (vCheck_ok l hl _ _) body_45 ?_
      refine Evf (jn4 @c1 @hlm @hlm2 @hsl) ?_
      refine ⟨hbn, ?_⟩
      refine Us (vCheck_ok [d] hsz1 _ _) body_45 ?_
      refine Evf (jn6 @c2 @hlm @h0 @hwm @hlt @hge) ?_
      refine ⟨by omega, ?_⟩
      refine hK _ _ _ ?_; clear hE hK K E
      refine ⟨rfl, rfl, by exact Er, by exact Er, ?_⟩
      rw [← fin2]
      exact Er
  · rintro ⟨t, h0, n0⟩ ⟨q1, q2, e0, e8, e16⟩
    simp only at q1 q2 e0 e8 e16
    subst q1 q2
    by_cases c3 : l ≠ [] ∧ gen ≤ lastG l
    · rw [decide_eq_true c3] at e16
      refine Btf @e16 ?_
      refine Rk ?_
      refine AWP.ret ?_
      refine Ev ?_
      exact fin _ _ _ 1 (by exact Er) (by exact Er) out (by rw [hadd, if_pos (.inr (.inr c3))])
    · rw [decide_eq_false c3] at e16
      have hadd2 : addR l gen names = if l.length = 1024 then ([], 6) else (l ++ [d], 0) := by rw [hadd, if_neg]; rintro (h | h | h); exact h c1; exact h c2; exact c3 h
      refine Bff @e16 ?_
      refine Rkf (jn2 @e0 @hlm) ?_
      by_cases c4 : (l.length : Int) = 1024
      · refine Btf @c4 ?_
        refine Rk ?_
        refine AWP.ret ?_
        refine Ev ?_
        exact fin _ _ _ 6 (by exact Er) (by exact Er) out (by rw [hadd2, if_pos (by omega)])
      · refine Bff @c4 ?_
        refine AWP.skip ?_
        refine Ev ?_
        refine Rgf @e8 (fun E K hE hK => ?_)
        refine Us ((own_ok (l ++ [d]) hsz _ _).rowFrz (okEs_dn _)) body_217 ?_
        refine hK _ _ _ ?_; clear hE hK K E
        refine AWP.ret ?_
        exact Ends.pure hn H out (r0 := .tup [DonesV (l ++ [d]), IntV 0]) (by rw [show Tryz.f193.results.toList = [.tmp 6, .tmp 7] from rfl]; exact Er) (frz_tup2 (frzV.p _) (.v _)) ⟨by rw [hadd2, if_neg (by omega)], rfl⟩
end Go.Proofs.YtihgnpboabpchaaGreatDoor
namespace Go.Proofs.YtihgnpboabpchaaGreatDoor
set_option linter.unusedSimpArgs false
set_option linter.unusedVariables false
set_option linter.unnecessarySimpa false
open Go Am
set_option maxRecDepth 100000
def sizeV (l : List Kn) : Prop := l.length ≤ 1000000 ∧ ∀ x ∈ l, x.data.length ≤ 1000000
def mownI (v : Vw) (ver cap : Nat) (T : List Cell) (h : Heap) (b i : Nat) (st : St) : Prop :=
  st.h (b + 2) = some (rowB ver (v.l.map encK) T) ∧ st.h b = some ⟨0, [.p (.v (.int .u64 v.gen)), .win (b + 2) ver 0 v.l.length cap]⟩ ∧ st.h (b + 1) = some ⟨0, [.p (.v (.int .u64 0)), .p (.v (.slice none 0 0))]⟩ ∧ (∀ id, id < b → st.h id = h id) ∧
    st.t 1 = .one (.ptr b 0 0) ∧ st.t 2 = .one (.ptr (b + 1) 0 0) ∧ st.t 10 = .one (.win (b + 2) ver 0 v.l.length cap) ∧ st.t 11 = IntV v.l.length ∧ st.t 12 = IntV (i : Nat)
def vwR (v : Vw) (h : Heap) (b : Nat) (r : AV) (h' : Heap) : Prop :=
  ∃ ver cap T, v.l.length ≤ cap ∧ cap * 3 = v.l.length * 3 + T.length ∧ lowCs 0 T = true ∧ r = .agg [.p (.v (.int .u64 v.gen)), .win b ver 0 v.l.length cap] ∧ h' = upd h b (rowB ver (v.l.map encK) T)
theorem mown_ok (v : Vw) (hl : sizeV v.l) (h : Heap) (b : Nat) : ACalls Tryz.prog 92 [VwV v] h b 1 (vwR v h b) := by
  refine ACalls.enter Tryz.func92 rfl (by simp [Tryz.ntmps92]) (fun ι w hn H => ?_)
  have hlow := H.lowCells
  have hl1 := hl.1
  have hlm : (v.l.map encK).length = v.l.length := List.length_map _
  refine Rk ?_
  refine Rg (fun E K hE hK => ?_)
  refine CallR.use (clone_kn_ok (v.l.map encK) (okEs_kn v.l) _ _ (by omega)) body_140 ?_
  rintro _ _ ⟨ver, cap, T, h1, h2, h3, rfl, rfl⟩
  rw [hlm] at h1 h2 ⊢
  refine Ev ?_
  refine hK _ _ _ ?_; clear hE hK K E
  refine AWP.seq ?_
  refine Rk ?_
  have hcl : ∀ i, (hi : i < v.l.length) → ((v.l.map encK).flatten.map Cell.p ++ T)[i * 3 + 2]? = some (.p (.sl 1 (v.l[i].data.map encO))) ∧ List.take 3 (List.drop (i * 3) ((v.l.map encK).flatten.map Cell.p ++ T)) = (encK v.l[i]).map .p := by
    intro i hi
    have he : (v.l.map encK)[i]? = some (encK v.l[i]) := by rw [List.getElem?_map, List.getElem?_eq_getElem hi]; rfl
    refine ⟨?_, row_part T (okEs_kn v.l) he⟩
    have := row_cells (okEs_kn v.l) ver T i (encK v.l[i]) he 2 (.sl 1 (v.l[i].data.map encO)) rfl
    rwa [Nat.zero_add] at this
  have hcl2 : ((v.l.map encK).flatten.map Cell.p ++ T).length = v.l.length * 3 + T.length := by rw [List.length_append, List.length_map, okEs_len (okEs_kn v.l), hlm]
  refine AWP.block ?_
  refine AWP.loopM 3 (fun m st => ∃ i, i ≤ v.l.length ∧ m = v.l.length - i ∧ mownI v ver cap T h b i st) v.l.length rfl ⟨0, Nat.zero_le _, rfl, by exact Er, by exact Er, by exact Er, Ou, by exact Er, by exact Er, by exact Er, by exact Er, by exact Er⟩ ?_
  rintro m ⟨t, hh, n⟩ ⟨i, hi, rfl, hb, hb0, hb1, ho, e1, e2, e10, e11, e12⟩ hn1
  simp only at hb hb0 hb1 ho e1 e2 e10 e11 e12 hn1
  subst hn1
  refine Rkf (jn2 @e11 @e12) ?_
  refine AWP.seq ?_
  by_cases hlt : (i : Int) < v.l.length
  · have hw1 : IntKind.i64.wrap ((i : Int) + 1) = ((i + 1 : Nat) : Int) := by rw [wrap_i64 (by omega) (by omega)]; rfl
    have hi2 : i < v.l.length := by omega
    obtain ⟨hc1, hc2⟩ := hcl i hi2
    obtain ⟨d, hd⟩ : ∃ d, v.l[i] = d := ⟨_, rfl⟩
    rw [hd] at hc1 hc2
    have hdm : d ∈ v.l := by rw [← hd]; exact List.getElem_mem hi2
    have hb' : hh (b + 2) = some ⟨ver, (v.l.map encK).flatten.map Cell.p ++ T⟩ := hb
    generalize hL : (v.l.map encK).flatten.map Cell.p ++ T = L at hb' hc1 hc2 hcl2
    have hle : i * 3 + 3 ≤ L.length := by omega
    have hsc := same_cell hc1
    refine Btf @hlt ?_
    refine AWP.skip ?_
    refine Ev ?_
    refine AWP.seq ?_
    refine AWP.block ?_
    refine Rgf (jn5 @e10 @e12 @hb' @hlt @hc2) (fun E K hE hK => ?_)
    repeat (refine ⟨by omega, ?_⟩)
    refine hK _ _ _ ?_; clear hE hK K E
    refine AWP.rgD [22] [OctV d.data] [b + 2] mixed (by kernel_rfl) (by kernel_rfl) (fun K hK => ?_) (by kernel_rfl); simp -implicitDefEqProofs only [go_sem, ↓reduceIte, Nat.reduceEqDiff, Nat.reduceAdd, Nat.reduceLT, Nat.reduceLeDiff, reduceCtorEq, Int.toNat_natCast, e1, hb0, hb', hlt, hsc]
    refine CallP.use (fun _ _ _ => (clone_oc_ok (d.data.map encO) (okEs_oct d.data) _ _ (by rw [List.length_map]; have := hl.2 d hdm; omega)).rowFrz (okEs_oct d.data)) body_83 ?_
    refine Evf (jn2 @hb' @hsc) ?_
    refine ⟨⟨by omega, by omega⟩, by omega, sub_at _ (by exact Erf @hb'), ?_⟩
    refine hK _ _ _ ?_; clear hK K
    refine Ev ?_
    refine Raf (jn2 @e12 @hw1) (fun E K hE hK => ?_); refine hK _ _ _ ?_; clear hE hK K E
    refine ⟨(by decide : 3 ≤ 4), v.l.length - (i + 1), by omega, i + 1, by omega, rfl, ?_, cutH_same (Nat.lt_add_of_pos_right (by decide)) (by exact Erf @hb0) (by simp [lowCs, lowC]), cutH_same (Nat.add_lt_add_left (by decide) _) (by exact Erf @hb1) (by simp [lowCs, lowC]), cutH_outer (Nat.le_add_right _ _) (Ouf @ho) hlow, by refine Evf @e1 ?_; exact cutV_ptr (Nat.lt_add_of_pos_right (by decide)), by refine Evf @e2 ?_; exact cutV_ptr (Nat.add_lt_add_left (by decide) _), by refine Evf @e10 ?_; exact cutV_win (Nat.add_lt_add_left (by decide) _), by exact Ecf @e11, by exact Er⟩
    rw [← hL]
    exact cutH_same (Nat.add_lt_add_left (by decide) _) (by exact Er) (lowCs_app (lowCs_p _ _) (lowCs_mono (Nat.zero_le _) h3))
  · refine Bff @hlt ?_
    refine AWP.exit ?_
    refine Ev ?_
    refine AWP.seqReg (by kernel_rfl) (fun E K hE hK => ?_); simp -implicitDefEqProofs only [go_sem, ↓reduceIte, Nat.reduceEqDiff, Nat.reduceAdd, Nat.reduceLT, Nat.reduceLeDiff, reduceCtorEq, Int.toNat_natCast, e1, e2, hb0, hb1, hb, rowB]
    refine hK _ _ _ ?_; clear hE hK K E
    refine AWP.ret ?_
    refine Ends.row (id := b + 2) (blk := rowB ver (v.l.map encK) T) hn H (Ouf @ho) (Nat.le_add_right _ _) (by exact Erf @hb) (lowCs_app (lowCs_p _ _) (lowCs_mono (Nat.zero_le _) h3)) (r0 := .agg [.p (.v (.int .u64 v.gen)), .win (b + 2) ver 0 v.l.length cap]) (by rw [show Tryz.f92.results.toList = [.cell 2 28] from rfl]; exact Erf @e2) (renV_agg2 (renC_p _) renC_win0) ⟨ver, cap, T, by omega, by omega, h3, rfl, rfl⟩
theorem mownZ_ok (v : Vw) (hl : sizeV v.l) (h : Heap) (b : Nat) : ACalls Tryz.prog 92 [VwV v] h b 0 (fun r h' => r = VwV v ∧ h' = h) := by
  intro ι w vs hb hh ha
  refine (ACalls.freeze (mown_ok v hl h b) ?_) ι w vs hb hh ha
  rintro r h' ⟨ver, cap, T, h1, h2, h3, rfl, rfl⟩
  refine ⟨VwV v, frz_agg2 (frz_p _) ?_, ⟨rfl, ?_⟩, fun id hid blk e c hc => ?_⟩
  · have := frz_row0 (b := b) (id := b) (ver := ver) (cap := cap) (T := T) (h := upd h b (rowB ver (v.l.map encK) T)) (Nat.le_refl _) (upd_same _ _ _) (okEs_kn v.l)
    rw [List.length_map] at this
    exact this
  · exact lowH_eq (fun id hid => by rw [upd_ne _ _ _ _ (by omega)]) hb
  · rw [upd_ne _ _ _ _ (by omega)] at e
    exact hh.lowCells id blk e c hc
theorem kFindO_ok (l : List Kn) (p : S) (hr : Ris nmK l) (hl : l.length ≤ 1000000) (hc : ∀ x ∈ l, chkN x.name = 0) (hp : okF p) {h : Heap} {R ver cap : Nat} (r : RowAt h R ver cap 3 (l.map encK)) (b : Nat) :
    ACalls Tryz.prog 149 [.one (.win R ver 0 l.length cap), StrV p, .one (.clo (.func 101) [] [])] h b 0 (fun r h' => r = .tup [IntV (posK nmK p l), BoolV (getK nmK p l).isSome] ∧ h' = h) := by
  obtain ⟨T, h1, _, _⟩ := r
  have hlm : (l.map encK).length = l.length := List.length_map _
  have vw := view_rowT (h := h) (D := fun _ => true) (id := R) (ver := ver) (sz := 3) (m := l.length) (j := 0) (off := 0) (cap := cap) rfl h1 (okEs_kn l) (by rw [hlm]; omega) rfl
  rw [List.drop_zero, ← hlm, List.take_length, hlm] at vw
  exact (kFind_ok l p hr hl hc hp noH b).lend (.cons (.one vw) (.cons (.same _) (.cons (.same _) .nil))) (.tup (fun v hv => by
    simp at hv
    rcases hv with rfl | rfl
    · exact ⟨_, rfl⟩
    · exact ⟨_, rfl⟩))
def getR' (k : Option Kn) (h : Heap) (b : Nat) (r : AV) (h' : Heap) : Prop :=
  (∀ id, id < b → h' id = h id) ∧ match k with
  | none => r = .one (.p (.v (.pointer none)))
  | some k => r = .one (.ptr b 0 0) ∧ h' b = some ⟨0, (encK k).map .p⟩
theorem mget_ok (v : Vw) (p : S) (hr : Ris nmK v.l) (hl : sizeV v.l) (hc : ∀ x ∈ v.l, chkN x.name = 0) (hp : okF p) (h : Heap) (b : Nat) :
    ACalls Tryz.prog 190 [VwV v, StrV p] h b 1 (getR' (getV v p) h b) := by
  refine ACalls.enter Tryz.func190 rfl (by simp [Tryz.ntmps190]) (fun ι w hn H => ?_)
  have hl1 := hl.1
  have hlm : (v.l.map encK).length = v.l.length := List.length_map _
  refine Rk ?_
  cases hg : getV v p with
  | none =>
    refine Rg (fun E K hE hK => ?_)
    refine Us (kFind_ok v.l p hr hl1 hc hp _ _) body_149 ?_
    refine Evf @hg ?_
    refine hK _ _ _ ?_; clear hE hK K E
    refine AWP.seq ?_
    refine Rk ?_
    refine Bt ?_
    refine Rk ?_
    refine AWP.ret ?_
    refine Ev ?_
    exact Ends.row (id := b) (blk := ⟨0, (encV v).map .p⟩) hn H Ou (Nat.le_refl _) (by exact Er) (lowCs_p _ _) (r0 := .one (.p (.v (.pointer none)))) (by rw [show Tryz.f190.results.toList = [.tmp 4] from rfl]; exact Er) (renV.v _) ⟨fun id hid => upd_ne _ _ _ _ (Nat.ne_of_lt hid), rfl⟩
  | some k =>
    obtain ⟨hk, hk2⟩ := atK hr hg
    have hge := encK_getD v.l (posK nmK p v.l) hk
    rw [hk2] at hge
    have hkl : ((posK nmK p v.l : Nat) : Int) < v.l.length := by omega
    have hkd := hl.2 k (getK_mem hg).1
    refine Rg (fun E K hE hK => ?_)
    refine Us (kFind_ok v.l p hr hl1 hc hp _ _) body_149 ?_
    refine Evf @hg ?_
    refine hK _ _ _ ?_; clear hE hK K E
    refine AWP.seq ?_
    refine Rk ?_
    refine Bs ?_
    refine Rgf (jn3 @hlm @hkl @hge) (fun E K hE hK => ?_)
    repeat (refine ⟨by omega, ?_⟩)
    refine hK _ _ _ ?_; clear hE hK K E
    refine Rg (fun E K hE hK => ?_)
    refine Us ((clone_oc_ok (k.data.map encO) (okEs_oct k.data) _ _ (by rw [List.length_map]; omega)).rowFrz (okEs_oct k.data)) body_83 ?_
    refine hK _ _ _ ?_; clear hE hK K E
    refine Rk ?_
    refine AWP.ret ?_
    exact Ends.row (id := b + 1) (blk := ⟨0, (encK k).map .p⟩) hn H Ou (Nat.le_succ _) (by exact Er) (lowCs_p _ _) (r0 := .one (.ptr (b + 1) 0 0)) (by rw [show Tryz.f190.results.toList = [.tmp 4] from rfl]; exact Er) (.one (.inr (.inr (.inr (.inr ⟨0, b + 1, _, 0, 0, rfl, rfl, rfl⟩))))) ⟨fun id hid => upd_ne _ _ _ _ (Nat.ne_of_lt hid), rfl, upd_same _ _ _⟩
theorem mgetO_ok (v : Vw) (p : S) (hr : Ris nmK v.l) (hl : sizeV v.l) (hc : ∀ x ∈ v.l, chkN x.name = 0) (hp : okF p) (h : Heap) (b : Nat) {R ver cap : Nat} (hR : R < b) (hrow : RowAt h R ver cap 3 (v.l.map encK)) :
    ACalls Tryz.prog 190 [.agg [.p (.v (.int .u64 v.gen)), .win R ver 0 v.l.length cap], StrV p] h b 1 (getR' (getV v p) h b) := by
  refine ACalls.enter Tryz.func190 rfl (by simp [Tryz.ntmps190]) (fun ι w hn H => ?_)
  have hl1 := hl.1
  have hRb : ¬ R = b := by omega
  have hlm : (v.l.map encK).length = v.l.length := List.length_map _
  have hrow1 : ∀ blk, RowAt (upd h b blk) R ver cap 3 (v.l.map encK) := fun blk => hrow.ne (by omega)
  obtain ⟨T, hT1, hT2, hT3⟩ := hrow
  refine AWP.seqReg (by kernel_rfl) (fun E K hE hK => ?_); simp -implicitDefEqProofs only [go_sem, ↓reduceIte, Nat.reduceEqDiff, Nat.reduceAdd, Nat.reduceLT, Nat.reduceLeDiff, reduceCtorEq, Int.toNat_natCast, hT1, rowB]
  refine hK _ _ _ ?_; clear hE hK K E
  cases hg : getV v p with
  | none =>
    refine AWP.seqReg (by kernel_rfl) (fun E K hE hK => ?_); simp -implicitDefEqProofs only [go_sem, ↓reduceIte, Nat.reduceEqDiff, Nat.reduceAdd, Nat.reduceLT, Nat.reduceLeDiff, reduceCtorEq, Int.toNat_natCast, hT1, rowB]
    refine Us (kFindO_ok v.l p hr hl1 hc hp (hrow1 _) _) body_149 ?_
    refine Evf @hg ?_
    refine hK _ _ _ ?_; clear hE hK K E
    refine AWP.seq ?_
    refine Rk ?_
    refine Bt ?_
    refine Rk ?_
    refine AWP.ret ?_
    refine Ev ?_
    exact Ends.row (id := b) (blk := ⟨0, [.p (.v (.int .u64 v.gen)), .win R ver 0 v.l.length cap]⟩) hn H Ou (Nat.le_refl _) (by exact Er) (by simp [lowCs, lowC, hR]) (r0 := .one (.p (.v (.pointer none)))) (by rw [show Tryz.f190.results.toList = [.tmp 4] from rfl]; exact Er) (renV.v _) ⟨fun id hid => upd_ne _ _ _ _ (Nat.ne_of_lt hid), rfl⟩
  | some k =>
    obtain ⟨hk, hk2⟩ := atK hr hg
    have hpart := row_part T (okEs_kn v.l) (i := posK nmK p v.l) (e := encK k) (by rw [List.getElem?_map, List.getElem?_eq_getElem hk, hk2]; rfl)
    have hkl : ((posK nmK p v.l : Nat) : Int) < v.l.length := by omega
    have hlL : ((v.l.map encK).flatten.map Cell.p ++ T).length = v.l.length * 3 + T.length := by rw [List.length_append, List.length_map, okEs_len (okEs_kn v.l), hlm]
    have hkd := hl.2 k (getK_mem hg).1
    refine AWP.seqReg (by kernel_rfl) (fun E K hE hK => ?_); simp -implicitDefEqProofs only [go_sem, ↓reduceIte, Nat.reduceEqDiff, Nat.reduceAdd, Nat.reduceLT, Nat.reduceLeDiff, reduceCtorEq, Int.toNat_natCast, hT1, rowB]
    refine Us (kFindO_ok v.l p hr hl1 hc hp (hrow1 _) _) body_149 ?_
    refine Evf @hg ?_
    refine hK _ _ _ ?_; clear hE hK K E
    refine AWP.seq ?_
    refine Rk ?_
    refine Bs ?_
    have hT1' : h R = some ⟨ver, (v.l.map encK).flatten.map Cell.p ++ T⟩ := hT1
    generalize (v.l.map encK).flatten.map Cell.p ++ T = L at hT1' hpart hlL
    refine Rgf (jn4 @hT1' @hkl @hpart @hRb) (fun E K hE hK => ?_)
    repeat (refine ⟨by omega, ?_⟩)
    refine hK _ _ _ ?_; clear hE hK K E
    refine Rg (fun E K hE hK => ?_)
    refine Us ((clone_oc_ok (k.data.map encO) (okEs_oct k.data) _ _ (by rw [List.length_map]; omega)).rowFrz (okEs_oct k.data)) body_83 ?_
    refine hK _ _ _ ?_; clear hE hK K E
    refine Rk ?_
    refine AWP.ret ?_
    exact Ends.row (id := b + 1) (blk := ⟨0, (encK k).map .p⟩) hn H Ou (Nat.le_succ _) (by exact Er) (lowCs_p _ _) (r0 := .one (.ptr (b + 1) 0 0)) (by rw [show Tryz.f190.results.toList = [.tmp 4] from rfl]; exact Er) (.one (.inr (.inr (.inr (.inr ⟨0, b + 1, _, 0, 0, rfl, rfl, rfl⟩))))) ⟨fun id hid => upd_ne _ _ _ _ (Nat.ne_of_lt hid), rfl, upd_same _ _ _⟩
end Go.Proofs.YtihgnpboabpchaaGreatDoor
namespace Go.Proofs.YtihgnpboabpchaaGreatDoor
set_option linter.unusedSimpArgs false
set_option linter.unusedVariables false
set_option linter.unnecessarySimpa false
open Go Am
set_option maxRecDepth 100000
def ptrK (k : Option Kn) (h : Heap) (b : Nat) (kv : AV) : Prop := match k with
  | none => kv = .one (.p (.v (.pointer none)))
  | some k => ∃ Kb, kv = .one (.ptr Kb 0 0) ∧ Kb < b ∧ h Kb = some ⟨0, (encK k).map .p⟩
def setI (l : List Kn) (cs : List Cell) (o : Nat) (h : Heap) (b G R : Nat) (p : S) (kv : AV) (st : St) : Prop :=
  ∃ ver cap, RowAt st.h R ver cap 3 (l.map encK) ∧ st.h G = some ⟨0, List.take (o + 1) cs ++ .win R ver 0 l.length cap :: List.drop (o + 1 + 1) cs⟩ ∧ (∀ id, id < b → id ≠ G → id ≠ R → st.h id = h id) ∧
    st.t 0 = .one (.ptr G 0 o) ∧ st.t 2 = kv
theorem mset_ok (l : List Kn) (p : S) (k : Option Kn) (hr : Ris nmK l) (hl : sizeV l) (hc : ∀ x ∈ l, chkN x.name = 0) (hp : okF p) (h : Heap) (b G R ver cap o : Nat) (cs : List Cell) (kv : AV) (hG : G < b) (hR : R < b) (hGR : ¬ G = R) (hg : h G = some ⟨0, cs⟩)
    (hc1 : cs[o + 1]? = some (.win R ver 0 l.length cap)) (hlow : lowCs b cs = true) (hrow : RowAt h R ver cap 3 (l.map encK)) (hk : ptrK k h b kv) (hkr : ∀ Kb, kv = .one (.ptr Kb 0 0) → Kb ≠ R ∧ Kb ≠ G) :
    ACalls Tryz.prog 186 [.one (.ptr G 0 o), StrV p, kv] h b 0 (fun r h' => r = .tup [] ∧ ∃ ver' cap', RowAt h' R ver' cap' 3 ((setK nmK p k l).map encK) ∧ h' G = some ⟨0, List.take (o + 1) cs ++ .win R ver' 0 (setK nmK p k l).length cap' :: List.drop (o + 1 + 1) cs⟩ ∧ ∀ id, id < b → id ≠ G → id ≠ R → h' id = h id) := by
  refine ACalls.enter Tryz.func186 rfl (by simp [Tryz.ntmps186]) (fun ι w hn H => ?_)
  have hl1 := hl.1
  have hlm : (l.map encK).length = l.length := List.length_map _
  have hkp := posK_le (nm := nmK) p l
  have hol : o + 1 < cs.length := (List.getElem?_eq_some_iff.1 hc1).1
  have hsame := same_cell hc1
  have hRG : ¬ R = G := fun e => hGR e.symm
  have hrow0 := hrow
  obtain ⟨T, hT1, hT2, hT3⟩ := hrow0
  refine AWP.seqReg (by kernel_rfl) (fun E K hE hK => ?_); simp -implicitDefEqProofs only [go_sem, ↓reduceIte, Nat.reduceEqDiff, Nat.reduceAdd, Nat.reduceLT, Nat.reduceLeDiff, reduceCtorEq, Int.toNat_natCast, hg, hc1, hT1, rowB]
  refine Us (kFindO_ok l p hr hl1 hc hp hrow _) body_149 ?_
  refine hK _ _ _ ?_; clear hE hK K E
  have hcap : l.length ≤ cap ∧ cap * 3 = (l.map encK).length * 3 + T.length := by rw [hlm]; rw [hlm] at hT2; omega
  obtain ⟨l1, hl1d⟩ : ∃ l1, setK nmK p none l = l1 := ⟨_, rfl⟩
  have hl1e : l1 = lowK nmK p l ++ higK nmK p l := by rw [← hl1d]; rfl
  have hl1n : l1.length ≤ l.length := by
    have := congrArg List.length (splitK (nm := nmK) (p := p) hr)
    rw [hl1e]; simp only [List.length_append] at this ⊢; omega
  have ht1 : l1.take (posK nmK p l) = lowK nmK p l := by rw [hl1e]; exact List.take_left
  have hd1 : l1.drop (posK nmK p l) = higK nmK p l := by rw [hl1e]; exact List.drop_left
  have hp1 : posK nmK p l ≤ l1.length := by rw [hl1e, List.length_append]; exact Nat.le_add_right _ _
  have fin : ∀ (t : Nat → AV) (hh : Heap) (n : Nat) (ver' cap' : Nat), RowAt hh R ver' cap' 3 ((setK nmK p k l).map encK) → hh G = some ⟨0, List.take (o + 1) cs ++ .win R ver' 0 (setK nmK p k l).length cap' :: List.drop (o + 1 + 1) cs⟩ → (∀ id, id < b → id ≠ G → id ≠ R → hh id = h id) →
      Am.Ends Tryz.prog ⟨Tryz.f186.ntmps, b, ι, h, w, x0⟩ Tryz.f186 0 (fun r h' => r = .tup [] ∧ ∃ ver' cap', RowAt h' R ver' cap' 3 ((setK nmK p k l).map encK) ∧ h' G = some ⟨0, List.take (o + 1) cs ++ .win R ver' 0 (setK nmK p k l).length cap' :: List.drop (o + 1 + 1) cs⟩ ∧ ∀ id, id < b → id ≠ G → id ≠ R → h' id = h id) ⟨t, hh, n⟩ := by
    intro t hh n ver' cap' q1 q2 q3
    have hlo : ∀ id, id < b → lowH b hh id = hh id := fun id hid => by unfold lowH; rw [if_pos hid]
    have hcsl : lowCs b (List.take (o + 1) cs ++ .win R ver' 0 (setK nmK p k l).length cap' :: List.drop (o + 1 + 1) cs) = true := lowCs_of (fun c hc => by
      rcases List.mem_append.1 hc with hc | hc
      · exact lowCs_mem hlow c (List.mem_of_mem_take hc)
      · rcases List.mem_cons.1 hc with rfl | hc
        · simp [lowC, hR]
        · exact lowCs_mem hlow c (List.mem_of_mem_drop hc))
    refine Ends.low (r0 := .tup []) rfl (frz_tup0 _ _) (fun id hid blk e c hc => ?_) ⟨rfl, ver', cap', ?_, by rw [hlo G hG]; exact q2, fun id hid n1 n2 => by rw [hlo id hid]; exact q3 id hid n1 n2⟩
    · by_cases e1 : id = G
      · subst e1; rw [show (⟨t, hh, n⟩ : St).h id = hh id from rfl, q2] at e; injection e with e; subst e; exact lowCs_mem hcsl c hc
      · by_cases e2 : id = R
        · subst e2
          obtain ⟨T', z1, _, z3⟩ := q1
          rw [show (⟨t, hh, n⟩ : St).h id = hh id from rfl, z1] at e; injection e with e; subst e
          exact lowCs_mem (lowCs_app (lowCs_p _ _) (lowCs_mono (Nat.zero_le _) z3)) c hc
        · rw [show (⟨t, hh, n⟩ : St).h id = hh id from rfl, q3 id hid e1 e2] at e
          exact H.lowCells id blk e c hc
    · obtain ⟨T', z1, z2, z3⟩ := q1
      exact ⟨T', by rw [hlo R hR]; exact z1, z2, z3⟩
  refine AWP.mid (fun st => st.n = 0 ∧ st.t 6 = IntV (posK nmK p l) ∧ setI l1 cs o h b G R p kv st) ?_ ?_
  · obtain ⟨x?, hx⟩ : ∃ x?, getK nmK p l = x? := ⟨_, rfl⟩
    cases x? with
    | none =>
      have hll : l1 = l := by
        have := splitK (nm := nmK) (p := p) hr
        rw [hx] at this
        rw [hl1e]; exact this.symm
      refine Rkf @hx ?_
      refine Bf ?_
      refine AWP.skip ?_
      subst hll
      exact ⟨rfl, by exact Er, ver, cap, hrow, by rw [hsame]; exact hg, fun _ _ _ _ => rfl, by exact Er, by exact Er⟩
    | some x =>
      obtain ⟨hk1, hk2⟩ := atK hr hx
      have kw : IntKind.i64.wrap (((posK nmK p l : Nat) : Int) + 1) = ((posK nmK p l + 1 : Nat) : Int) := by rw [wrap_i64 (by omega) (by omega)]; rfl
      refine Rkf @hx ?_
      refine Bt ?_
      have hdr : (l.map encK).take (posK nmK p l) ++ (l.map encK).drop (posK nmK p l + 1) = l1.map encK := by
        rw [← List.map_take, ← List.map_drop, ← List.map_append, takeK hr, dropK1 hr hx, hl1e]
      refine AWP.reg (by kernel_rfl) (fun E K hE hK => ?_); simp -implicitDefEqProofs only [go_sem, ↓reduceIte, Nat.reduceEqDiff, Nat.reduceAdd, Nat.reduceLT, Nat.reduceLeDiff, reduceCtorEq, Int.toNat_natCast, hg, hc1, kw, hT1, rowB]
      refine CallR.use ((delete_kn_ok (l.map encK) (okEs_kn l) h _ R ver cap (posK nmK p l) (posK nmK p l + 1) T (show R < b + 0 by omega) hT1 hT3 (by rw [hlm]; exact hcap.1) hcap.2 (by omega) (by rw [hlm]; omega) (by rw [hlm]; omega)).arg_eq (by rw [hlm])) body_212 ?_
      rintro _ _ ⟨ver', cap', T', k1, k2, k3, rfl, rfl⟩
      rw [hdr, List.length_map] at k1 k2
      rw [hdr, List.length_map]
      simp -implicitDefEqProofs only [go_sem, ↓reduceIte, Nat.reduceEqDiff, Nat.reduceAdd, Nat.reduceLT, Nat.reduceLeDiff, reduceCtorEq, Int.toNat_natCast, hg, hc1, hGR, rowB]
      refine ⟨by omega, ?_⟩
      refine hK _ _ _ ?_; clear hE hK K E
      refine ⟨rfl, by exact Er, ver', cap', ⟨T', by exact Erf @hRG, by rw [List.length_map]; omega, k3⟩, by exact Er, fun id hid a1 a2 => by exact Ecf (jn2 @a1 @a2), by exact Er, by exact Er⟩
  rintro ⟨t, hh, n⟩ ⟨hn1, e6, ver1, cap1, hrow1, hg1, ho, e0, e2⟩
  simp only at hn1 e6 hrow1 hg1 ho e0 e2
  subst hn1
  cases k with
  | none =>
    have e2' : t 2 = .one (.p (.v (.pointer none))) := by rw [e2]; exact hk
    refine Rkf @e2' ?_
    refine Bf ?_
    refine AWP.skip ?_
    exact fin _ _ _ ver1 cap1 (by rw [hl1d]; exact hrow1) (by rw [hl1d]; exact hg1) ho
  | some kk =>
    obtain ⟨Kb, hkv, hKb, hKb2⟩ := hk
    obtain ⟨n1, n2⟩ := hkr Kb hkv
    have e2' : t 2 = .one (.ptr Kb 0 0) := by rw [e2]; exact hkv
    have hKh : hh Kb = some ⟨0, (encK kk).map .p⟩ := by rw [ho Kb hKb n2 n1]; exact hKb2
    refine Rkf (jn2 @e2' @hKh) ?_
    refine Bt ?_
    have hc1' : (List.take (o + 1) cs ++ Cell.win R ver1 0 l1.length cap1 :: List.drop (o + 1 + 1) cs)[o + 1]? = some (.win R ver1 0 l1.length cap1) := by
      rw [List.getElem?_append_right (by rw [List.length_take]; omega), List.length_take, show o + 1 - min (o + 1) cs.length = 0 by omega]; rfl
    have hol2 : (List.take (o + 1) cs ++ Cell.win R ver1 0 l1.length cap1 :: List.drop (o + 1 + 1) cs).length = cs.length := by simp only [List.length_append, List.length_take, List.length_cons, List.length_drop]; omega
    have htk : ∀ c, List.take (o + 1) (List.take (o + 1) cs ++ Cell.win R ver1 0 l1.length cap1 :: List.drop (o + 1 + 1) cs) ++ c :: List.drop (o + 1 + 1) (List.take (o + 1) cs ++ Cell.win R ver1 0 l1.length cap1 :: List.drop (o + 1 + 1) cs) = List.take (o + 1) cs ++ c :: List.drop (o + 1 + 1) cs := fun c => by
      have : (List.take (o + 1) cs).length = o + 1 := by rw [List.length_take]; omega
      rw [List.take_append_of_le_length (by omega), List.take_take, Nat.min_self, List.drop_append, List.drop_of_length_le (by omega), this, show o + 1 + 1 - (o + 1) = 1 by omega]; rfl
    obtain ⟨T1, hT11, hT12, hT13⟩ := hrow1
    have hlm1 : (l1.map encK).length = l1.length := List.length_map _
    rw [hlm1] at hT12
    generalize hcs1 : List.take (o + 1) cs ++ Cell.win R ver1 0 l1.length cap1 :: List.drop (o + 1 + 1) cs = cs1 at hc1' hol2 htk hg1
    refine AWP.rgS [35] [] (ers (delH hh R) G) ((sub_ers _ _).trans (sub_delH _ _)) mixed (by kernel_rfl) (by kernel_rfl) (fun K hK => ?_) (by kernel_rfl); simp -implicitDefEqProofs only [go_sem, ↓reduceIte, Nat.reduceEqDiff, Nat.reduceAdd, Nat.reduceLT, Nat.reduceLeDiff, reduceCtorEq, Int.toNat_natCast, e0, e2', e6, hg1, hc1', hKh, hT11, rowB, hGR, hRG, n1, n2, delH]
    have hsub := (sub_ers (delH hh R) G).trans (sub_delH hh R)
    refine ⟨hsub, ?_⟩
    refine CallD.use ((insert_kn_ok (l1.map encK) [encK kk] (okEs_kn l1) (okEs_kn [kk]) hh _ R ver1 cap1 (posK nmK p l) T1 (show R < b + 0 by omega) hT11 hT13 (by rw [hlm1]; omega) (by rw [hlm1]; omega) (by rw [hlm1]; exact hp1) (by rw [hlm1]; omega) (by simp)).arg_eq (by rw [hlm1])) body_213 ?_
    rintro _ _ ⟨ver', cap', T', k1, k2, k3, rfl, rfl⟩
    have hdr : (l1.map encK).take (posK nmK p l) ++ ([encK kk] ++ (l1.map encK).drop (posK nmK p l)) = (setK nmK p (some kk) l).map encK := by
      rw [← List.map_take, ← List.map_drop, ht1, hd1]
      show _ = (lowK nmK p l ++ (([kk] : List Kn) ++ higK nmK p l)).map encK
      rw [List.map_append, List.map_append]; rfl
    rw [hdr, List.length_map] at k1 k2
    rw [hdr, List.length_map]
    have hs2 : Am.Sub (ers (delH hh R) G) (upd hh R (rowB ver' ((setK nmK p (some kk) l).map encK) T')) := hsub.updN (by (first | (simp -implicitDefEqProofs only [go_sem, ↓reduceIte, Nat.reduceEqDiff, Nat.reduceAdd, Nat.reduceLT, Nat.reduceLeDiff, reduceCtorEq, Int.toNat_natCast, hRG, delH]; first | done | rfl) | rfl))
    refine ⟨hs2, ?_⟩
    have hdG : delH hh R G = some ⟨0, cs1⟩ := by unfold delH; rw [if_neg hGR]; exact hg1
    simp -implicitDefEqProofs only [go_sem, ↓reduceIte, Nat.reduceEqDiff, Nat.reduceAdd, Nat.reduceLT, Nat.reduceLeDiff, reduceCtorEq, Int.toNat_natCast, hg1, hc1', hGR, hRG, htk, rowB, hdG]
    refine ⟨by omega, hs2.upd (fun bb eb => ?_), ?_⟩
    · rw [ers_lit, if_pos rfl, hdG] at eb
      injection eb with eb
      subst eb; exact ⟨rfl, rfl⟩
    refine hK _ _ _ ?_; clear hK K
    exact fin _ _ _ ver' cap' ⟨T', by exact Erf @hRG, by rw [List.length_map]; omega, k3⟩ (by exact Er) (fun id hid a1 a2 => by refine Evf (jn2 @a1 @a2) ?_; exact ho id hid a1 a2)
end Go.Proofs.YtihgnpboabpchaaGreatDoor
namespace Go.Proofs.YtihgnpboabpchaaGreatDoor
set_option linter.unusedSimpArgs false
set_option linter.unusedVariables false
set_option linter.unnecessarySimpa false
open Go Am
set_option maxRecDepth 100000
theorem ins_len (l : List S) (p : S) : (insN l p).length ≤ l.length + 1 := set_len
theorem fold_ins {l : List S} (hr : Ris nmS l) (hc : ∀ x ∈ l, okF x) : ∀ {ns : List S}, (∀ x ∈ ns, okF x) → Ris nmS (ns.foldl insN l) ∧ (∀ x ∈ ns.foldl insN l, okF x) ∧ (ns.foldl insN l).length ≤ l.length + ns.length := by
  intro ns
  induction ns generalizing l with
  | nil => intro _; exact ⟨hr, hc, Nat.le_refl _⟩
  | cons p ns ih =>
    intro hns
    have hr1 : Ris nmS (insN l p) := hr.set (fun x hx => by injection hx with hx; exact hx.symm)
    have hc1 : ∀ x ∈ insN l p, okF x := fun x hx => by
      rcases ins_mem.1 hx with rfl | hx
      · exact hns _ List.mem_cons_self
      · exact hc x hx
    obtain ⟨h1, h2, h3⟩ := ih hr1 hc1 (fun x hx => hns x (List.mem_cons_of_mem _ hx))
    have := ins_len l p
    exact ⟨h1, h2, by rw [List.foldl_cons, List.length_cons]; omega⟩
theorem fold_take {l : List S} {ns : List S} {i : Nat} (hi : i < ns.length) : (ns.take (i + 1)).foldl insN l = insN ((ns.take i).foldl insN l) ns[i] := by
  rw [List.take_succ_eq_append_getElem hi, List.foldl_append]; rfl
theorem low_set {b o : Nat} {cs : List Cell} {d : PD} (hlow : lowCs b cs = true) : lowCs b (List.take o cs ++ .p d :: List.drop (o + 1) cs) = true := lowCs_of (fun c hc => by
  rcases List.mem_append.1 hc with hc | hc
  · exact lowCs_mem hlow c (List.mem_of_mem_take hc)
  · rcases List.mem_cons.1 hc with rfl | hc
    · rfl
    · exact lowCs_mem hlow c (List.mem_of_mem_drop hc))
theorem at_set {o : Nat} {cs : List Cell} {c : Cell} (h : o < cs.length) : (List.take o cs ++ c :: List.drop (o + 1) cs)[o]? = some c := by
  rw [List.getElem?_append_right (by rw [List.length_take]; omega), List.length_take, show o - min o cs.length = 0 by omega]; rfl
theorem len_set {o : Nat} {cs : List Cell} {c : Cell} (h : o < cs.length) : (List.take o cs ++ c :: List.drop (o + 1) cs).length = cs.length := by simp only [List.length_append, List.length_take, List.length_cons, List.length_drop]; omega
theorem set_set {o : Nat} {cs : List Cell} {c d : Cell} (h : o < cs.length) : List.take o (List.take o cs ++ c :: List.drop (o + 1) cs) ++ d :: List.drop (o + 1) (List.take o cs ++ c :: List.drop (o + 1) cs) = List.take o cs ++ d :: List.drop (o + 1) cs := by
  have : (List.take o cs).length = o := by rw [List.length_take]; omega
  rw [List.take_append_of_le_length (by omega), List.take_take, Nat.min_self, List.drop_append, List.drop_of_length_le (by omega), this, show o + 1 - o = 1 by omega]; rfl
theorem mread_ok (l ns : List S) (hr : Ris nmS l) (hc : ∀ x ∈ l, okF x) (hns : ∀ x ∈ ns, okF x) (hl : l.length + ns.length < 1024) (h : Heap) (b X ver off : Nat) (cs : List Cell) (hX : X < b) (hb : h X = some ⟨ver, cs⟩) (hc6 : cs[off + 6]? = some (.p (.sl 1 (l.map encS)))) (hlow : lowCs b cs = true) :
    ACalls Tryz.prog 189 [.one (.ptr X ver off), ListV ns] h b 0 (fun r h' => r = IntV 0 ∧ h' = upd h X ⟨ver, List.take (off + 6) cs ++ .p (.sl 1 ((ns.foldl insN l).map encS)) :: List.drop (off + 6 + 1) cs⟩) := by
  refine ACalls.enter Tryz.func189 rfl (by simp [Tryz.ntmps189]) (fun ι w hn H => ?_)
  have hHlow := H.lowCells
  have hlm : (ns.map encS).length = ns.length := List.length_map _
  have hol : off + 6 < cs.length := (List.getElem?_eq_some_iff.1 hc6).1
  refine Rk ?_
  refine Rkf (jn2 @hb @hc6) ?_
  refine AWP.seq ?_
  refine Rkf @hlm ?_
  refine AWP.block ?_
  refine AWP.loopM 0 (fun m st => ∃ i, i ≤ ns.length ∧ m = ns.length - i ∧ (∀ id, id < b → st.h id = h id) ∧ st.t 0 = .one (.ptr X ver off) ∧ st.t 5 = ListV ((ns.take i).foldl insN l) ∧ st.t 13 = ListV ns ∧ st.t 14 = IntV ns.length ∧ st.t 15 = IntV (i : Nat)) ns.length rfl ⟨0, Nat.zero_le _, rfl, fun _ _ => rfl, by exact Er, by exact Er, by exact Er, by exact Er, by exact Er⟩ ?_
  rintro m ⟨t, hh, n⟩ ⟨i, hi, rfl, ho, e0, e5, e13, e14, e15⟩ hn1
  simp only at ho e0 e5 e13 e14 e15 hn1
  subst hn1
  refine Rkf (jn2 @e14 @e15) ?_
  refine AWP.seq ?_
  by_cases hlt : (i : Int) < ns.length
  · have hw1 : IntKind.i64.wrap ((i : Int) + 1) = ((i + 1 : Nat) : Int) := by rw [wrap_i64 (by omega) (by omega)]; rfl
    have hi2 : i < ns.length := by omega
    have hge := encS_getD ns i hi2
    have hft := fold_take (l := l) hi2
    obtain ⟨x, hx⟩ : ∃ x, ns[i] = x := ⟨_, rfl⟩
    rw [hx] at hge hft
    have hxm : x ∈ ns := by rw [← hx]; exact List.getElem_mem hi2
    obtain ⟨f1, f2, f3⟩ := fold_ins hr hc (ns := ns.take i) (fun y hy => hns y (List.mem_of_mem_take hy))
    have f4 : ((ns.take i).foldl insN l).length < 1024 := by rw [List.length_take] at f3; omega
    generalize (ns.take i).foldl insN l = li at e5 hft f1 f2 f4
    refine Btf @hlt ?_
    refine AWP.skip ?_
    refine Ev ?_
    refine AWP.seq ?_
    refine AWP.block ?_
    refine Rgf (jn5 @e13 @e15 @hlm @hlt @hge) (fun E K hE hK => ?_)
    refine ⟨by omega, ?_⟩
    refine hK _ _ _ ?_; clear hE hK K E
    refine Rgf @e5 (fun E K hE hK => ?_)
    refine Us (mput_ok li x 1024 f1 f4 (by decide) f2 (hns x hxm) _ _) body_194 ?_
    refine hK _ _ _ ?_; clear hE hK K E
    refine Rk ?_
    refine Bf ?_
    refine AWP.skip ?_
    refine Ev ?_
    refine Raf (jn2 @e15 @hw1) (fun E K hE hK => ?_); refine hK _ _ _ ?_; clear hE hK K E
    exact ⟨ns.length - (i + 1), by omega, i + 1, by omega, rfl, cutH_outer (Nat.le_refl _) ho hHlow, by refine Evf @e0 ?_; exact cutV_ptr hX, by rw [hft]; exact Er, by exact Ecf @e13, by exact Ecf @e14, by exact Er⟩
  · refine Bff @hlt ?_
    refine AWP.exit ?_
    refine Ev ?_
    have hil : i = ns.length := by omega
    subst hil
    rw [List.take_length] at e5
    have hbX : hh X = some ⟨ver, cs⟩ := by rw [ho X hX]; exact hb
    refine Rgf (jn4 @e0 @e5 @hbX @hc6) (fun E K hE hK => ?_)
    refine ⟨by omega, ?_⟩
    refine hK _ _ _ ?_; clear hE hK K E
    refine Rk ?_
    refine AWP.ret ?_
    refine Ends.turn hn H hX (blk := ⟨ver, List.take (off + 6) cs ++ .p (.sl 1 ((ns.foldl insN l).map encS)) :: List.drop (off + 6 + 1) cs⟩) (fun id hid => ?_) (low_set hlow) (r0 := IntV 0) (by rw [show Tryz.f189.results.toList = [.tmp 4] from rfl]; exact Er) (.v _) ⟨rfl, rfl⟩
    by_cases e : id = X
    · subst e; rw [upd_same]; exact Er
    · rw [upd_ne _ _ _ _ e]; refine Evf @e ?_; exact ho id hid
theorem mwrote_ok (l ns : List S) (hr : Ris nmS l) (hc : ∀ x ∈ l, okF x) (hns : ∀ x ∈ ns, okF x) (hl : l.length + ns.length < 256) (h : Heap) (b X ver off : Nat) (cs : List Cell) (hX : X < b) (hb : h X = some ⟨ver, cs⟩) (hc5 : cs[off + 5]? = some (.p (.sl 1 (l.map encS)))) (hlow : lowCs b cs = true) :
    ACalls Tryz.prog 187 [.one (.ptr X ver off), ListV ns] h b 0 (fun r h' => r = IntV 0 ∧ h' = upd h X ⟨ver, List.take (off + 5) cs ++ .p (.sl 1 ((ns.foldl insN l).map encS)) :: List.drop (off + 5 + 1) cs⟩) := by
  refine ACalls.enter Tryz.func187 rfl (by simp [Tryz.ntmps187]) (fun ι w hn H => ?_)
  have hHlow := H.lowCells
  have hlm : (ns.map encS).length = ns.length := List.length_map _
  have hol : off + 5 < cs.length := (List.getElem?_eq_some_iff.1 hc5).1
  refine Rk ?_
  refine AWP.seq ?_
  refine Rkf @hlm ?_
  refine AWP.block ?_
  refine AWP.loopM 0 (fun m st => ∃ i, i ≤ ns.length ∧ m = ns.length - i ∧ st.h X = some ⟨ver, List.take (off + 5) cs ++ .p (.sl 1 (((ns.take i).foldl insN l).map encS)) :: List.drop (off + 5 + 1) cs⟩ ∧ (∀ id, id < b → id ≠ X → st.h id = h id) ∧ st.t 0 = .one (.ptr X ver off) ∧ st.t 7 = ListV ns ∧ st.t 8 = IntV ns.length ∧ st.t 9 = IntV (i : Nat)) ns.length rfl ⟨0, Nat.zero_le _, rfl, by rw [List.take_zero, List.foldl_nil, same_cell hc5]; exact hb, fun _ _ _ => rfl, by exact Er, by exact Er, by exact Er, by exact Er⟩ ?_
  rintro m ⟨t, hh, n⟩ ⟨i, hi, rfl, hbX, ho, e0, e7, e8, e9⟩ hn1
  simp only at hbX ho e0 e7 e8 e9 hn1
  subst hn1
  refine Rkf (jn2 @e8 @e9) ?_
  refine AWP.seq ?_
  by_cases hlt : (i : Int) < ns.length
  · have hw1 : IntKind.i64.wrap ((i : Int) + 1) = ((i + 1 : Nat) : Int) := by rw [wrap_i64 (by omega) (by omega)]; rfl
    have hi2 : i < ns.length := by omega
    have hge := encS_getD ns i hi2
    have hft := fold_take (l := l) hi2
    obtain ⟨x, hx⟩ : ∃ x, ns[i] = x := ⟨_, rfl⟩
    rw [hx] at hge hft
    have hxm : x ∈ ns := by rw [← hx]; exact List.getElem_mem hi2
    obtain ⟨f1, f2, f3⟩ := fold_ins hr hc (ns := ns.take i) (fun y hy => hns y (List.mem_of_mem_take hy))
    have f4 : ((ns.take i).foldl insN l).length < 256 := by rw [List.length_take] at f3; omega
    generalize (ns.take i).foldl insN l = li at hbX hft f1 f2 f4
    have hc5' : (List.take (off + 5) cs ++ Cell.p (.sl 1 (li.map encS)) :: List.drop (off + 5 + 1) cs)[off + 5]? = some (.p (.sl 1 (li.map encS))) := at_set hol
    have htk := fun c => set_set (c := Cell.p (.sl 1 (li.map encS))) (d := c) hol
    have hol2 : (List.take (off + 5) cs ++ Cell.p (.sl 1 (li.map encS)) :: List.drop (off + 5 + 1) cs).length = cs.length := len_set hol
    generalize List.take (off + 5) cs ++ Cell.p (.sl 1 (li.map encS)) :: List.drop (off + 5 + 1) cs = cs1 at hbX hc5' htk hol2
    refine Btf @hlt ?_
    refine AWP.skip ?_
    refine Ev ?_
    refine AWP.seq ?_
    refine AWP.block ?_
    refine Rgf (jn5 @e7 @e9 @hlm @hlt @hge) (fun E K hE hK => ?_)
    refine ⟨by omega, ?_⟩
    refine hK _ _ _ ?_; clear hE hK K E
    refine Rgf (jn3 @e0 @hbX @hc5') (fun E K hE hK => ?_)
    refine Us (mput_ok li x 256 f1 f4 (by decide) f2 (hns x hxm) _ _) body_194 ?_
    refine Evf (jn2 @hbX @htk) ?_
    refine ⟨by omega, ?_⟩
    refine hK _ _ _ ?_; clear hE hK K E
    refine Rk ?_
    refine Bf ?_
    refine AWP.skip ?_
    refine Ev ?_
    refine Raf (jn2 @e9 @hw1) (fun E K hE hK => ?_); refine hK _ _ _ ?_; clear hE hK K E
    exact ⟨ns.length - (i + 1), by omega, i + 1, by omega, rfl, cutH_same (Nat.lt_add_right 0 hX) (by rw [hft]; exact Er) (lowCs_mono (Nat.le_refl _) (low_set hlow)), fun id hid hne => cutH_outS hHlow (by refine Evf @hne ?_; exact ho id hid hne) hid, by refine Evf @e0 ?_; exact cutV_ptr hX, by exact Ecf @e7, by exact Ecf @e8, by exact Er⟩
  · refine Bff @hlt ?_
    refine AWP.exit ?_
    refine Ev ?_
    have hil : i = ns.length := by omega
    subst hil
    rw [List.take_length] at hbX
    refine Rk ?_
    refine AWP.ret ?_
    refine Ends.turn hn H hX (blk := ⟨ver, List.take (off + 5) cs ++ .p (.sl 1 ((ns.foldl insN l).map encS)) :: List.drop (off + 5 + 1) cs⟩) (upd_all hbX ho) (low_set hlow) (r0 := IntV 0) (by rw [show Tryz.f187.results.toList = [.tmp 4] from rfl]; exact Er) (.v _) ⟨rfl, rfl⟩
end Go.Proofs.YtihgnpboabpchaaGreatDoor
namespace Go.Proofs.YtihgnpboabpchaaGreatDoor
set_option linter.unusedSimpArgs false
set_option linter.unusedVariables false
set_option linter.unnecessarySimpa false
open Go Am
namespace Am
theorem dU_bin {P : Program} {C : Ctx} {S : List Tmp} {V : List AV} {hS : Heap} {ops : Array Oper} {op : BinOp} {ty z : TypeId} {x y : Operand} {X : Option AV} {dst : Option Tmp} {os : List Oper} {t : Nat → AV} {h : Heap} {n : Nat} {K : FinT} {v : AV}
    (hv : binA P h ty op (val t x) (val t y) = some v) (hs : Sub hS h) (k : evD P C S V hS ops os (putT t dst v) h n K) : dU P C S V hS ops true (.binOp op ty x y z) X dst os t h n K := by
  unfold dU
  rw [if_pos rfl]
  unfold aop
  simp only [bare, hv]
  exact ⟨hs, k⟩
theorem AWP.genT {P : Program} {C : Ctx} {Q : Exit → St → Prop} {c : Code} {s : St} (M : St → Prop) (h : M s) (k : ∀ s, M s → AWP P C c Q s) : AWP P C c Q s := k s h
theorem Inv.lessH {C : Ctx} {ι : Nat → Nat} {t : Nat → AV} {h h1 : Heap} {n : Nat} {a : Act} {w : World} (I : Inv C ι ⟨t, h, n⟩ a w) (l : ∀ i b, h1 i = some b → h i = some b) : Inv C ι ⟨t, h1, n⟩ a w := by
  have M : Moves ι h (C.b + n) w ι h1 (C.b + n) w := .less l
  refine ⟨fun i hi b e => I.outer i hi b (l i b e), fun i hi b e ne => I.fresh i hi b (l i b e) ne, fun i hi => ?_, I.heap.less l, fun j => (I.tmps j).move M, I.ntmps, I.defers, I.keeps⟩
  show h1 i = none
  cases e : h1 i with
  | none => rfl
  | some b => have e2 := l i b e; have e3 : h i = none := I.bound i hi; rw [e3] at e2; cases e2
theorem AWP.cellAt {P : Program} {C : Ctx} {Q : Exit → St → Prop} {c : Code} {t : Nat → AV} {h h1 : Heap} {n : Nat} (G k : Nat) {gb : Blk} {x y : Cell} (l : ∀ i b, h1 i = some b → h i = some b) (hG : h1 G = some gb) (hk : gb.cells[k]? = some x)
    (hxy : ∀ (ι : Nat → Nat) (w : World) (v : Value), HeapOK ι h (C.b + n) w → RCell ι h (C.b + n) w x v → RCell ι h1 (C.b + n) w y v)
    (K : AWP P C c Q ⟨t, upd h1 G ⟨gb.ver, gb.cells.set k y⟩, n⟩) : AWP P C c Q ⟨t, h, n⟩ := by
  refine .weak (fun a w ι I => ⟨ι, ?_⟩) K
  have I' := I.lessH l
  generalize hh2 : upd h1 G ⟨gb.ver, gb.cells.set k y⟩ = h2
  have hk2 : k < gb.cells.length := (List.getElem?_eq_some_iff.1 hk).1
  have hne : gb.cells ≠ [] := fun e => by rw [e] at hk2; simp at hk2
  have hat : ∀ i b', h2 i = some b' → ∃ b, h1 i = some b ∧ b.ver = b'.ver ∧ b.cells.length = b'.cells.length ∧ ((i = G ∧ b = gb ∧ b' = ⟨gb.ver, gb.cells.set k y⟩) ∨ (i ≠ G ∧ b' = b)) := by
    intro i b' e
    subst hh2
    by_cases hi : i = G
    · subst hi; rw [upd_same] at e; injection e with e; subst e
      exact ⟨gb, hG, rfl, by simp, .inl ⟨rfl, rfl, rfl⟩⟩
    · rw [upd_ne _ _ _ _ hi] at e
      exact ⟨b', e, rfl, rfl, .inr ⟨hi, rfl⟩⟩
  have hnil : ∀ {b b' : Blk}, b.cells.length = b'.cells.length → b'.cells ≠ [] → b.cells ≠ [] := fun e ne hz => ne (List.eq_nil_of_length_eq_zero (by rw [← e, hz]; rfl))
  have M : Moves ι h1 (C.b + n) w ι h2 (C.b + n) w := by
    refine ⟨Nat.le_refl _, fun b s _ i b' e ne => ?_, fun _ _ _ => rfl, fun i _ b' e => ?_⟩
    · obtain ⟨b0, e0, _, hlen, _⟩ := hat i b' e
      exact s i b0 e0 (hnil hlen ne)
    · obtain ⟨b0, e0, hv, _, _⟩ := hat i b' e
      exact ⟨b0, e0, Nat.le_of_eq hv, fun _ => rfl⟩
  refine ⟨fun i hi b' e => ?_, fun i hi b' e ne => ?_, fun i hi => ?_, ⟨fun i b' e ne => ?_, fun i j bi bj ei ej ni nj heq => ?_⟩, fun j => (I'.tmps j).move M, I'.ntmps, I'.defers, I'.keeps⟩
  · obtain ⟨b0, e0, hv, hlen, _⟩ := hat i b' e
    obtain ⟨bb, h3, h4, h5⟩ := I'.outer i hi b0 e0
    refine ⟨bb, h3, hv ▸ h4, ?_⟩
    rcases h5 with ⟨h5, h6⟩ | ⟨h5, h6⟩
    · exact .inl ⟨h5.trans hlen, h6⟩
    · exact .inr ⟨hv ▸ h5, fun ne => h6 (hnil hlen ne)⟩
  · obtain ⟨b0, e0, _, hlen, _⟩ := hat i b' e
    exact I'.fresh i hi b0 e0 (hnil hlen ne)
  · show h2 i = none
    cases e : h2 i with
    | none => rfl
    | some b' =>
      obtain ⟨b0, e0, _⟩ := hat i b' e
      have e3 : h1 i = none := I'.bound i hi
      rw [e3] at e0; cases e0
  · obtain ⟨b0, e0, hv, hlen, h6⟩ := hat i b' e
    obtain ⟨cc, ty, g1, g2, g3⟩ := I'.heap.blk i b0 e0 (hnil hlen ne)
    refine ⟨cc, ty, g1, g2.trans hlen, fun j d u hd hu => ?_⟩
    rcases h6 with ⟨rfl, rfl, rfl⟩ | ⟨_, rfl⟩
    · simp only [List.getElem?_set] at hd
      by_cases hj : k = j
      · subst hj
        rw [if_pos rfl, if_pos hk2] at hd
        injection hd with hd
        subst hd
        obtain ⟨cc', ty', g1', g2', g3'⟩ := I.heap.blk i b0 (l _ _ e0) hne
        have : cc = cc' := by rw [g1] at g1'; injection g1' with g1'; injection g1'
        subst this
        exact (hxy ι w u I.heap (g3' k x u hk hu)).move M
      · rw [if_neg hj] at hd
        exact (g3 j d u hd hu).move M
    · exact (g3 j d u hd hu).move M
  · obtain ⟨b0, e0, _, hlen, _⟩ := hat i bi ei
    obtain ⟨b1, e1, _, hlen1, _⟩ := hat j bj ej
    exact I'.heap.inj i j b0 b1 e0 e1 (hnil hlen ni) (hnil hlen1 nj) heq
theorem AWP.frzAt {P : Program} {C : Ctx} {Q : Exit → St → Prop} {c : Code} {t : Nat → AV} {h : Heap} {n : Nat} (G k : Nat) {gb : Blk} {id ver len cap sz : Nat} {es : List (List PD)} (hG : h G = some gb) (hk : gb.cells[k]? = some (.win id ver 0 len cap)) (r : RowAt h id ver cap sz es) (ho : okEs sz es) (hl : es.length = len) (hne : G ≠ id)
    (K : AWP P C c Q ⟨t, upd (delH h id) G ⟨gb.ver, gb.cells.set k (.p (.sl sz es))⟩, n⟩) : AWP P C c Q ⟨t, h, n⟩ := by
  obtain ⟨T, h1, h2, h3⟩ := r
  exact AWP.cellAt G k (fun i b e => (delH_some e).2) (by rw [delH_ne _ _ _ hne]; exact hG) hk (fun ι w v H rc => frz_row H rc h1 rfl hl ho.len (row_cells ho ver T)) K
theorem AWP.nilAt {P : Program} {C : Ctx} {Q : Exit → St → Prop} {c : Code} {t : Nat → AV} {h : Heap} {n : Nat} (G k sz : Nat) {gb : Blk} (hG : h G = some gb) (hk : gb.cells[k]? = some (.p (.v (.slice none 0 0))))
    (K : AWP P C c Q ⟨t, upd h G ⟨gb.ver, gb.cells.set k (.p (.sl sz []))⟩, n⟩) : AWP P C c Q ⟨t, h, n⟩ :=
  AWP.cellAt G k (fun _ _ e => e) hG hk (fun ι w v H rc => by
    cases rc with
    | p hd => cases hd with
      | v => exact .p (RPD.sl (es := []) none 0 (fun _ _ => undef) (Nat.le_refl _) (fun _ => rfl) (fun _ e => by cases e) (fun _ e => by cases e) (fun _ _ e => by simp at e) (fun _ _ e => by simp at e))) K
end Am
end Go.Proofs.YtihgnpboabpchaaGreatDoor
namespace Go.Proofs.YtihgnpboabpchaaGreatDoor
set_option linter.unusedSimpArgs false
set_option linter.unusedVariables false
set_option linter.unnecessarySimpa false
open Go Am
set_option maxRecDepth 100000
theorem clean1_ok (p : S) (h : Heap) (b : Nat) : ACalls Tryz.prog 211 [StrV p] h b 0 (fun r h' => r = BoolV (!decide (chkN p = 0)) ∧ h' = h) := by
  refine ACalls.enter Tryz.func211 rfl (by simp [Tryz.ntmps211]) (fun ι w hn H => ?_)
  have c := Check_ok (mkS p)
  rw [show bl (mkS p) = p from rfl] at c
  refine Rk ?_
  refine Rg (fun E K hE hK => ?_)
  refine Us (c _ _) body_31 ?_
  refine hK _ _ _ ?_; clear hE hK K E
  refine AWP.ret ?_
  exact Ends.pure hn H (fun _ _ => rfl) (r0 := BoolV (!decide (chkN p = 0))) (by rw [show Tryz.f211.results.toList = [.tmp 2] from rfl]; exact Er) (.v _) ⟨rfl, rfl⟩
def cleanX' (ns : List S) : Bool := ns.all fun p => decide (chkN p = 0)
theorem mclean_ok (ns : List S) (hl : ns.length ≤ 1000000) (h : Heap) (b : Nat) : ACalls Tryz.prog 183 [ListV ns] h b 0 (fun r h' => r = BoolV (cleanX' ns) ∧ h' = h) := by
  refine ACalls.enter Tryz.func183 rfl (by simp [Tryz.ntmps183]) (fun ι w hn H => ?_)
  have e : (!(ns.any fun p => !decide (chkN p = 0))) = cleanX' ns := by
    unfold cleanX'
    induction ns with
    | nil => rfl
    | cons p ns ih => rw [List.any_cons, List.all_cons, ← ih (by rw [List.length_cons] at hl; omega)]; cases decide (chkN p = 0) <;> rfl
  refine Rk ?_
  refine Rg (fun E K hE hK => ?_)
  refine Us (containsF_ok 211 [] (fun p => !decide (chkN p = 0)) ns _ _ body_211 rfl hl (fun x _ => clean1_ok x _ _)) body_210 ?_
  refine Evf @e ?_
  refine hK _ _ _ ?_; clear hE hK K E
  refine AWP.ret ?_
  exact Ends.pure hn H (fun _ _ => rfl) (r0 := BoolV (cleanX' ns)) (by rw [show Tryz.f183.results.toList = [.tmp 2] from rfl]; exact Er) (.v _) ⟨rfl, rfl⟩
theorem view_ns {h : Heap} {D : Nat → Bool} {id : Nat} (ns : List S) (hD : D id = true) (hb : h id = some ⟨0, (ns.map encS).flatten.map .p⟩) (n : Nat) (hn : n = ns.length) : ViewC h D (.win id 0 0 n n) (.p (.sl 1 (ns.map encS))) := by
  subst hn
  have hlm : (ns.map encS).length = ns.length := List.length_map _
  have := view_rowT (h := h) (D := D) (id := id) (ver := 0) (sz := 1) (m := ns.length) (j := 0) (off := 0) (cap := ns.length) (es := ns.map encS) (T := []) hD (by rw [hb, rowB, List.append_nil]) (okEs_str ns) (by rw [hlm]; omega) rfl
  rw [List.drop_zero, ← hlm, List.take_length, hlm] at this
  exact this
theorem mcleanO_ok (ns : List S) (hl : ns.length ≤ 1000000) {h : Heap} {id : Nat} (hb : h id = some ⟨0, (ns.map encS).flatten.map .p⟩) (n : Nat) (hn : n = ns.length) (b : Nat) : ACalls Tryz.prog 183 [.one (.win id 0 0 n n)] h b 0 (fun r h' => r = BoolV (cleanX' ns) ∧ h' = h) :=
  (mclean_ok ns hl noH b).lend (.cons (.one (view_ns ns rfl hb n hn)) .nil) (.one _)
abbrev gB (g : Gs) (R ver cap : Nat) : List Cell := [.p (.v (.int .i64 g.kind)), .p (.v (.int .u64 g.base.gen)), .p (.sl 3 (g.base.l.map encK)), .p (.v (.int .u64 g.now.gen)), .win R ver 0 g.now.l.length cap, .p (.sl 1 (g.writes.map encS)), .p (.sl 1 (g.names.map encS)), .p (.sl 1 (g.dirs.map encS))]
def GB (h : Heap) (G R : Nat) (g : Gs) : Prop := ∃ ver cap, h G = some ⟨0, gB g R ver cap⟩ ∧ RowAt h R ver cap 3 (g.now.l.map encK)
def ClOK (f : FuncId) (caps : List Cell) (g0 g1 : Gs) (e : Int) (b0 : Nat) (h0 : Heap) : Prop :=
  ∀ (h : Heap) (b G R : Nat), (∀ id, id < b0 → h id = h0 id) → b0 ≤ G → b0 ≤ R → G < b → R < b → ¬ G = R → GB h G R g0 →
    ACalls Tryz.prog f (.one (.ptr G 0 0) :: caps.map .one) h b 0 (fun r h' => r = IntV e ∧ GB h' G R g1 ∧ ∀ id, id < b → id ≠ G → id ≠ R → h' id = h id)
abbrev wB (v : Vw) (log : List Dn) (Q qv qc i : Nat) : List Cell := [.p (.v (.int .u64 v.gen)), .p (.sl 3 (v.l.map encK)), .win Q qv 0 64 qc, .p (.sl 2 (log.map encD)), .ptr Q qv (i * 8)]
structure WB (h : Heap) (W Q qv qc i : Nat) (v : Vw) (log : List Dn) (gs : List Gs) : Prop where
  w : h W = some ⟨0, wB v log Q qv qc i⟩
  q : RowAt h Q qv qc 8 (gs.map encG)
  n : gs.length = 64
  i : i < 64
  ne : ¬ W = Q
theorem gs_at {gs : List Gs} (T : List Cell) {i : Nat} (hi : i < gs.length) : List.take 8 (List.drop (i * 8) ((gs.map encG).flatten.map Cell.p ++ T)) = (encG gs[i]).map .p :=
  row_part T (okEs_gs gs) (by rw [List.getElem?_map, List.getElem?_eq_getElem hi]; rfl)
theorem gs_set {gs : List Gs} (T : List Cell) {i : Nat} (hi : i < gs.length) (g : Gs) : List.take (i * 8) ((gs.map encG).flatten.map Cell.p ++ T) ++ .p (.v (.int .i64 g.kind)) :: .p (.v (.int .u64 g.base.gen)) :: .p (.sl 3 (g.base.l.map encK)) :: .p (.v (.int .u64 g.now.gen)) :: .p (.sl 3 (g.now.l.map encK)) :: .p (.sl 1 (g.writes.map encS)) :: .p (.sl 1 (g.names.map encS)) :: .p (.sl 1 (g.dirs.map encS)) :: List.drop (i * 8 + 8) ((gs.map encG).flatten.map Cell.p ++ T) = ((gs.set i g).map encG).flatten.map Cell.p ++ T := by
  have h := spl_row (es := gs.map encG) (fs := [encG g]) (i := i) T (okEs_gs gs) (okEs_gs [g]) (by simp; omega)
  have e : gs.set i g = gs.take i ++ (g :: gs.drop (i + 1)) := by rw [List.set_eq_take_append_cons_drop, if_pos hi]
  rw [e]
  simpa [spl, encG] using h
end Go.Proofs.YtihgnpboabpchaaGreatDoor
namespace Go.Proofs.YtihgnpboabpchaaGreatDoor
set_option linter.unusedSimpArgs false
set_option linter.unusedVariables false
set_option linter.unnecessarySimpa false
open Go Am
set_option maxRecDepth 100000
theorem frz_rp {h : Heap} {b : Nat} {x y z : PD} : frzV h b (.agg [.p x, .p y, .p z, .p (.v (.slice none 0 0)), .p (.v (.slice none 0 0))]) (.agg [.p x, .p y, .p z, .p (.sl 1 []), .p (.sl 1 [])]) := by
  refine .agg rfl (fun i c d hc hd => ?_)
  match i with
  | 0 => simp at hc hd; subst hc; subst hd; exact frz_p _
  | 1 => simp at hc hd; subst hc; subst hd; exact frz_p _
  | 2 => simp at hc hd; subst hc; subst hd; exact frz_p _
  | 3 => simp at hc hd; subst hc; subst hd; exact frz_nil 1
  | 4 => simp at hc hd; subst hc; subst hd; exact frz_nil 1
  | i + 5 => simp at hc
def MR (h : Heap) (b W Q qv qc i : Nat) (v : Vw) (log : List Dn) (gs : List Gs) (rp : Rp) (r : AV) (h' : Heap) : Prop :=
  r = RpV rp ∧ WB h' W Q qv qc i v log gs ∧ ∀ id, id < b → id ≠ Q → id ≠ W → h' id = h id
theorem Ends.MR {C : Ctx} {fn : Func} {s : St} {r0 : AV} {b W Q qv qc i : Nat} {v : Vw} {log : List Dn} {gs : List Gs} {rp : Rp} (hb : C.b = b) (H : HeapOK C.ι C.h C.b C.w) (hW : W < b) (hQ : Q < b) (hw : WB s.h W Q qv qc i v log gs) (ho : ∀ id, id < b → id ≠ Q → id ≠ W → s.h id = C.h id)
    (hr : resA Tryz.prog s.h s.t fn.results.toList = some r0) (hf : frzV s.h C.b r0 (RpV rp)) : Am.Ends Tryz.prog C fn 0 (MR C.h b W Q qv qc i v log gs rp) s := by
  subst hb
  have hlo : ∀ id, id < C.b → lowH C.b s.h id = s.h id := fun id hid => by unfold lowH; rw [if_pos hid]
  refine Ends.low hr hf (fun id hid blk e c hc => ?_) ⟨rfl, ⟨by rw [hlo W hW]; exact hw.w, ?_, hw.n, hw.i, hw.ne⟩, fun id hid n1 n2 => by rw [hlo id hid]; exact ho id hid n1 n2⟩
  · by_cases e1 : id = W
    · subst e1; rw [hw.w] at e; injection e with e; subst e
      exact lowCs_mem (by simp [lowCs, lowC, hQ]) c hc
    · by_cases e2 : id = Q
      · subst e2
        obtain ⟨T', z1, _, z3⟩ := hw.q
        rw [z1] at e; injection e with e; subst e
        exact lowCs_mem (lowCs_app (lowCs_p _ _) (lowCs_mono (Nat.zero_le _) z3)) c hc
      · rw [ho id hid e2 e1] at e
        exact H.lowCells id blk e c hc
  · obtain ⟨T', z1, z2, z3⟩ := hw.q
    exact ⟨T', by rw [hlo Q hQ]; exact z1, z2, z3⟩
theorem trial_ok (f : FuncId) (caps : List Cell) (hf : bodyB Tryz.prog f = true) (g0 g1 : Gs) (e : Int) (he : e ≠ 6) (h : Heap) (b W Q qv qc i : Nat) (v : Vw) (log : List Dn) (gs : List Gs) (hW : W < b) (hQ : Q < b) (hw : WB h W Q qv qc i v log gs) (hg : gs[i]? = some g0)
    (hsz : sizeV g0.now.l) (hcl : ClOK f caps g0 g1 e b h) (hcaps : lowCs b caps = true) :
    ACalls Tryz.prog 184 [.one (.ptr W 0 0), .one (.clo (.func f) [] caps)] h b 0 (MR h b W Q qv qc i v log (gs.set i g1) (errR e)) := by
  refine ACalls.enter Tryz.func184 rfl (by simp [Tryz.ntmps184]) (fun ι w hn H => ?_)
  obtain ⟨w1, w2, w3, w4, w5⟩ := hw
  obtain ⟨T, q1, q2, q3⟩ := w2
  have hgl : i < gs.length := by omega
  have hge : gs[i] = g0 := by rw [List.getElem?_eq_getElem hgl] at hg; injection hg
  have hpart := gs_at T hgl
  rw [hge] at hpart
  have hset := gs_set T hgl g1
  have hlm : (gs.map encG).length = gs.length := List.length_map _
  have hlL : ((gs.map encG).flatten.map Cell.p ++ T).length = gs.length * 8 + T.length := by rw [List.length_append, List.length_map, okEs_len (okEs_gs gs), hlm]
  have q1' : h Q = some ⟨qv, (gs.map encG).flatten.map Cell.p ++ T⟩ := q1
  have hWQ : ¬ Q = W := fun e => w5 e.symm
  generalize hL : (gs.map encG).flatten.map Cell.p ++ T = L at q1' hpart hset hlL
  have nW0 : ¬ W = b := by omega
  have nW1 : ¬ W = b + 1 := by omega
  have nW2 : ¬ W = b + 2 := by omega
  have nQ0 : ¬ Q = b := by omega
  have nQ1 : ¬ Q = b + 1 := by omega
  have nQ2 : ¬ Q = b + 2 := by omega
  refine Rk ?_
  refine AWP.seqReg (by kernel_rfl) (fun E K hE hK => ?_); simp -implicitDefEqProofs only [go_sem, ↓reduceIte, Nat.reduceEqDiff, Nat.reduceAdd, Nat.reduceLT, Nat.reduceLeDiff, reduceCtorEq, Int.toNat_natCast, w1, q1', hpart, nW0, nQ0, wB]
  refine ⟨by omega, ?_⟩
  refine hK _ _ _ ?_; clear hE hK K E
  refine Rg (fun E K hE hK => ?_)
  refine CallR.use (mown_ok g0.now hsz _ _) body_92 ?_
  rintro _ _ ⟨ver, cap, T2, k1, k2, k3, rfl, rfl⟩
  refine Ev ?_
  refine hK _ _ _ ?_; clear hE hK K E
  refine Am.AWP.genT (fun st => st.n = 3 ∧ GB st.h (b + 1) (b + 2) g0 ∧ st.h b = some ⟨0, [.p (.v (.int .i64 0)), .p (.v (.int .u64 0)), .p (.v (.float .f64 0)), .p (.v (.slice none 0 0)), .p (.v (.slice none 0 0))]⟩ ∧ (∀ id, id < b → st.h id = h id) ∧ st.t 0 = .one (.ptr W 0 0) ∧ st.t 1 = .one (.clo (.func f) [] caps) ∧ st.t 4 = .one (.ptr b 0 0) ∧ st.t 5 = .one (.ptr (b + 1) 0 0)) ⟨rfl, ⟨ver, cap, by exact Er, T2, by exact Er, by rw [List.length_map]; omega, k3⟩, by exact Er, Ou, by exact Er, by exact Er, by exact Er, by exact Er⟩ ?_
  rintro ⟨t, hh, n⟩ ⟨hn1, hgb, hb0, ho, e0, e1, e4, e5⟩
  simp only at hn1 hgb hb0 ho e0 e1 e4 e5
  subst hn1
  refine Rgf (jn2 @e1 @e5) (fun E K hE hK => ?_)
  refine CallR.use (hcl hh _ (b + 1) (b + 2) ho (Nat.le_succ _) (Nat.le_add_right _ _) (Nat.add_lt_add_left (by decide) _) (Nat.add_lt_add_left (by decide) _) (by omega) hgb) hf ?_
  rintro _ h2 ⟨rfl, hgb2, ho2⟩
  have hb2 : h2 b = some ⟨0, [.p (.v (.int .i64 0)), .p (.v (.int .u64 0)), .p (.v (.float .f64 0)), .p (.v (.slice none 0 0)), .p (.v (.slice none 0 0))]⟩ := by rw [ho2 b (Nat.lt_add_of_pos_right (by decide)) (by omega) (by omega)]; exact hb0
  have ho3 : ∀ id, id < b → h2 id = h id := fun id hid => by rw [ho2 id (Nat.lt_add_right 3 hid) (by omega) (by omega)]; exact ho id hid
  clear hb0 ho ho2 hgb hh
  refine Ev ?_
  refine hK _ _ _ ?_; clear hE hK K E
  refine AWP.seq ?_
  refine Rkf @he ?_
  refine Bt ?_
  obtain ⟨ver2, cap2, g3, g4⟩ := hgb2
  refine AWP.frzAt (b + 1) 4 g3 rfl g4 (okEs_kn _) (List.length_map _) (by omega) ?_
  refine Am.AWP.genT (fun st => st.n = 3 ∧ st.h (b + 1) = some ⟨0, (encG g1).map .p⟩ ∧ st.h b = some ⟨0, [.p (.v (.int .i64 0)), .p (.v (.int .u64 0)), .p (.v (.float .f64 0)), .p (.v (.slice none 0 0)), .p (.v (.slice none 0 0))]⟩ ∧ (∀ id, id < b → st.h id = h id) ∧ st.t 0 = .one (.ptr W 0 0) ∧ st.t 4 = .one (.ptr b 0 0) ∧ st.t 5 = .one (.ptr (b + 1) 0 0) ∧ st.t 6 = IntV e) ⟨rfl, upd_same _ _ _, by (first | (simp -implicitDefEqProofs only [go_sem, ↓reduceIte, Nat.reduceEqDiff, Nat.reduceAdd, Nat.reduceLT, Nat.reduceLeDiff, reduceCtorEq, Int.toNat_natCast, hb2, delH]; first | done | rfl) | rfl), fun id (hid : id < b) => by simp -implicitDefEqProofs only [go_sem, ↓reduceIte, Nat.reduceEqDiff, Nat.reduceAdd, Nat.reduceLT, Nat.reduceLeDiff, reduceCtorEq, Int.toNat_natCast, delH, show ¬ id = b + 1 by omega, show ¬ id = b + 2 by omega]; exact ho3 id hid, by exact Erf @e0, by exact Erf @e4, by exact Erf @e5, by exact Er⟩ ?_
  clear hb2 ho3 g3 g4 e0 e1 e4 e5 t h2
  rintro ⟨t, hh, n⟩ ⟨hn1, hb1, hb0, ho, e0, e4, e5, e6⟩
  simp only at hn1 hb1 hb0 ho e0 e4 e5 e6
  subst hn1
  have w1' : hh W = some ⟨0, wB v log Q qv qc i⟩ := by rw [ho W hW]; exact w1
  have q1'' : hh Q = some ⟨qv, L⟩ := by rw [ho Q hQ]; exact q1'
  have nQ1' : ¬ b + 1 = Q := by omega
  refine AWP.rgD [] [] [Q] mixed (by kernel_rfl) (by kernel_rfl) (fun K hK => ?_) (by kernel_rfl); simp -implicitDefEqProofs only [go_sem, ↓reduceIte, Nat.reduceEqDiff, Nat.reduceAdd, Nat.reduceLT, Nat.reduceLeDiff, reduceCtorEq, Int.toNat_natCast, e0, e5, w1', hb1, q1'', wB, encG, nQ1, nQ1', nW1, hWQ, w5, hset]
  refine ⟨by omega, sub_at _ q1'', ?_⟩
  refine hK _ _ _ ?_; clear hK K
  have nbQ : ¬ b = Q := by omega
  refine Rgf (jn5 @e4 @e6 @hb0 @nQ0 @nbQ) (fun E K hE hK => ?_)
  repeat (refine ⟨by omega, ?_⟩)
  refine hK _ _ _ ?_; clear hE hK K E
  refine AWP.ret ?_
  refine Ends.MR rfl H hW hQ ⟨by exact Erf (jn3 @w1' @nW0 @w5), ⟨T, by exact Erf @nQ0, by simp only [List.length_map, List.length_set] at q2 ⊢; exact q2, q3⟩, by rw [List.length_set]; exact w3, w4, w5⟩ (fun id hid a1 a2 => by refine Evf (jn2 @a1 (show ¬ id = b by omega)) ?_; exact ho id hid) (r0 := .agg [.p (.v (.int .i64 e)), .p (.v (.int .u64 0)), .p (.v (.float .f64 0)), .p (.v (.slice none 0 0)), .p (.v (.slice none 0 0))]) (by rw [show Tryz.f184.results.toList = [.cell 4 44] from rfl]; exact Erf @e4) frz_rp
end Go.Proofs.YtihgnpboabpchaaGreatDoor
