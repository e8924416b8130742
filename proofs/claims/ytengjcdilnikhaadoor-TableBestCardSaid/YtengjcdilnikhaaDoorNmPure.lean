/-
  Names: plain laws (parts, cleaning); Names: plain laws (joined, split, in order).
-/
import Derived.Test.YtengjcdilnikhaaDoorNmSpec
namespace Go.Proofs.YtengjcdilnikhaaDoor
set_option linter.unusedSimpArgs false
set_option linter.unusedVariables false
set_option linter.unnecessarySimpa false
open Go Am

abbrev S := List UInt8
def Good (p : S) : Prop := p ≠ [] ∧ p ≠ [46] ∧ p ≠ [46, 46]
instance (p : S) : Decidable (Good p) := by unfold Good; infer_instance

theorem parts_ne (l : S) : parts l ≠ [] := by
  cases l with
  | nil => simp [parts]
  | cons c l =>
    unfold parts
    split
    · simp
    · split <;> simp

theorem parts_sl (l : S) : parts (47 :: l) = [] :: parts l := by simp [parts]
theorem parts_cons {c : UInt8} (hc : c ≠ 47) {l : S} {p : S} {ps : List S} (h : parts l = p :: ps) : parts (c :: l) = (c :: p) :: ps := by
  unfold parts
  rw [if_neg hc, h]

theorem parts_ex (l : S) : ∃ p ps, parts l = p :: ps := by
  match h : parts l with
  | [] => exact absurd h (parts_ne l)
  | p :: ps => exact ⟨p, ps, rfl⟩

theorem parts_app (a b : S) : parts (a ++ 47 :: b) = parts a ++ parts b := by
  induction a with
  | nil => rw [List.nil_append, parts_sl]; rfl
  | cons c a ih =>
    by_cases hc : c = 47
    · subst hc; rw [List.cons_append, parts_sl, parts_sl, ih]; rfl
    · obtain ⟨p, ps, h⟩ := parts_ex a
      rw [h] at ih
      rw [List.cons_append, parts_cons hc ih, parts_cons hc h]; rfl

theorem parts_one {p : S} (h : (47 : UInt8) ∉ p) : parts p = [p] := by
  induction p with
  | nil => rfl
  | cons c p ih =>
    simp only [List.mem_cons, not_or] at h
    exact parts_cons (fun e => h.1 e.symm) (ih h.2)

theorem mem_parts {l q : S} (h : q ∈ parts l) : (47 : UInt8) ∉ q ∧ ∀ c ∈ q, c ∈ l := by
  induction l generalizing q with
  | nil => simp [parts] at h; subst h; simp
  | cons c l ih =>
    by_cases hc : c = 47
    · subst hc
      rw [parts_sl] at h
      rcases List.mem_cons.1 h with rfl | h
      · simp
      · exact ⟨(ih h).1, fun x hx => List.mem_cons_of_mem _ ((ih h).2 x hx)⟩
    · obtain ⟨p, ps, hp⟩ := parts_ex l
      rw [parts_cons hc hp] at h
      have hm : ∀ q ∈ p :: ps, (47 : UInt8) ∉ q ∧ ∀ c ∈ q, c ∈ l := fun q hq => ih (by rw [hp]; exact hq)
      rcases List.mem_cons.1 h with rfl | h
      · obtain ⟨h1, h2⟩ := hm p (List.mem_cons_self ..)
        refine ⟨fun hx => ?_, fun x hx => ?_⟩
        · rcases List.mem_cons.1 hx with e | e
          · exact hc e.symm
          · exact h1 e
        · rcases List.mem_cons.1 hx with rfl | e
          · exact List.mem_cons_self ..
          · exact List.mem_cons_of_mem _ (h2 x e)
      · obtain ⟨h1, h2⟩ := hm q (List.mem_cons_of_mem _ h)
        exact ⟨h1, fun x hx => List.mem_cons_of_mem _ (h2 x hx)⟩

theorem joinS_cons {p : S} {ps : List S} (h : ps ≠ []) : joinS (p :: ps) = p ++ 47 :: joinS ps := by
  match ps with
  | q :: qs => rfl

theorem joinS_app {a b : List S} (ha : a ≠ []) (hb : b ≠ []) : joinS (a ++ b) = joinS a ++ 47 :: joinS b := by
  induction a with
  | nil => exact absurd rfl ha
  | cons p a ih =>
    by_cases h : a = []
    · subst h; rw [List.cons_append, List.nil_append, joinS_cons hb]; rfl
    · rw [List.cons_append, joinS_cons (by simp [h]), ih h, joinS_cons h]; simp

theorem joinS_parts (l : S) : joinS (parts l) = l := by
  induction l with
  | nil => rfl
  | cons c l ih =>
    by_cases hc : c = 47
    · subst hc; rw [parts_sl, joinS_cons (parts_ne l), ih]; rfl
    · obtain ⟨p, ps, hp⟩ := parts_ex l
      rw [parts_cons hc hp]
      rw [hp] at ih
      by_cases h : ps = []
      · subst h; rw [← ih]; rfl
      · rw [joinS_cons h] at ih ⊢; rw [← ih]; rfl

theorem parts_joinS {ps : List S} (h : ps ≠ []) (hs : ∀ q ∈ ps, (47 : UInt8) ∉ q) : parts (joinS ps) = ps := by
  induction ps with
  | nil => exact absurd rfl h
  | cons p ps ih =>
    by_cases hp : ps = []
    · subst hp; exact parts_one (hs p (List.mem_cons_self ..))
    · rw [joinS_cons hp, parts_app, parts_one (hs p (List.mem_cons_self ..)), ih hp fun q hq => hs q (List.mem_cons_of_mem _ hq)]; rfl

def wt : List S → Nat
  | [] => 0
  | p :: ps => p.length + 1 + wt ps

theorem joinS_wt {ps : List S} (h : ps ≠ []) : (joinS ps).length + 1 = wt ps := by
  induction ps with
  | nil => exact absurd rfl h
  | cons p ps ih =>
    by_cases hp : ps = []
    · subst hp; simp [joinS, wt]
    · rw [joinS_cons hp]; have := ih hp; simp [wt]; omega

theorem wt_app (a b : List S) : wt (a ++ b) = wt a + wt b := by
  induction a with
  | nil => simp [wt]
  | cons p a ih => simp [wt, ih]; omega

theorem wt_dropLast (a : List S) : wt a.dropLast ≤ wt a := by
  induction a with
  | nil => simp [wt]
  | cons p a ih =>
    cases a with
    | nil => simp [wt]
    | cons q a => rw [List.dropLast_cons_cons]; simp only [wt] at ih ⊢; omega

theorem mem_joinS {ps : List S} {c : UInt8} (h : c ∈ joinS ps) : c = 47 ∨ ∃ p ∈ ps, c ∈ p := by
  induction ps with
  | nil => simp [joinS] at h
  | cons p ps ih =>
    by_cases hp : ps = []
    · subst hp; exact .inr ⟨p, List.mem_cons_self .., h⟩
    · rw [joinS_cons hp] at h
      rcases List.mem_append.1 h with h | h
      · exact .inr ⟨p, List.mem_cons_self .., h⟩
      · rcases List.mem_cons.1 h with h | h
        · exact .inl h
        · rcases ih h with h | ⟨q, hq, hc⟩
          · exact .inl h
          · exact .inr ⟨q, List.mem_cons_of_mem _ hq, hc⟩

theorem stepC_good {kept : List S} {p : S} (h : Good p) : stepC kept p = some (kept ++ [p]) := by
  unfold stepC
  obtain ⟨h1, h2, h3⟩ := h
  rw [if_neg (by simp [h1, h2]), if_neg h3]

theorem goC_good (kept : List S) (ps : List S) (h : ∀ q ∈ ps, Good q) : goC kept ps = some (kept ++ ps) := by
  induction ps generalizing kept with
  | nil => simp [goC]
  | cons p ps ih =>
    unfold goC
    rw [stepC_good (h p (List.mem_cons_self ..))]
    simp only
    rw [ih _ fun q hq => h q (List.mem_cons_of_mem _ hq)]; simp

theorem goC_app (kept a b : List S) : goC kept (a ++ b) = (goC kept a).bind fun k => goC k b := by
  induction a generalizing kept with
  | nil => simp [goC]
  | cons p a ih =>
    rw [List.cons_append]
    have e1 : ∀ l, goC kept (p :: l) = match stepC kept p with
        | some k => goC k l
        | none => none := fun l => rfl
    rw [e1, e1]
    cases h : stepC kept p with
    | none => rfl
    | some k => exact ih k

theorem stepC_inv {kept k : List S} {p : S} (h : stepC kept p = some k) : (∀ q ∈ k, q ∈ kept ∨ (q = p ∧ Good q)) ∧ wt k ≤ wt kept + wt [p] := by
  unfold stepC at h
  split at h
  · injection h with h; subst h; exact ⟨fun q hq => .inl hq, by omega⟩
  · rename_i h1
    split at h
    · split at h
      · cases h
      · injection h with h; subst h; exact ⟨fun q hq => .inl (List.dropLast_subset _ hq), by have := wt_dropLast kept; omega⟩
    · rename_i h2
      injection h with h; subst h
      refine ⟨fun q hq => ?_, by rw [wt_app]; omega⟩
      rcases List.mem_append.1 hq with hq | hq
      · exact .inl hq
      · rw [List.mem_singleton] at hq; subst hq
        rw [not_or] at h1
        exact .inr ⟨rfl, h1.1, h1.2, h2⟩

theorem goC_inv {kept ps k : List S} (h : goC kept ps = some k) : (∀ q ∈ k, q ∈ kept ∨ (q ∈ ps ∧ Good q)) ∧ wt k ≤ wt kept + wt ps := by
  induction ps generalizing kept with
  | nil => simp [goC] at h; subst h; exact ⟨fun q hq => .inl hq, by simp [wt]⟩
  | cons p ps ih =>
    unfold goC at h
    split at h
    · rename_i k1 h1
      obtain ⟨a1, a2⟩ := stepC_inv h1
      obtain ⟨b1, b2⟩ := ih h
      refine ⟨fun q hq => ?_, by simp only [wt] at a2 b2 ⊢; omega⟩
      rcases b1 q hq with hq | ⟨hq, hg⟩
      · rcases a1 q hq with hq | ⟨rfl, hg⟩
        · exact .inl hq
        · exact .inr ⟨List.mem_cons_self .., hg⟩
      · exact .inr ⟨List.mem_cons_of_mem _ hq, hg⟩
    · cases h

theorem fitsX_eq {l : S} : fitsX l = 0 ↔ l.length ≤ 96 ∧ ∀ c ∈ l, octB c = true := by
  unfold fitsX
  split
  · simp; omega
  · split
    · rename_i h1 h2; simp only [List.all_eq_true] at h2; simp; exact ⟨by omega, h2⟩
    · rename_i h1 h2
      simp only [List.all_eq_true] at h2
      exact ⟨fun e => absurd e (by decide), fun e => absurd e.2 h2⟩

theorem cleanX_ok {l r : S} : cleanX l = (r, 0) ↔ fitsX l = 0 ∧ ∃ k, goC [] (parts l) = some k ∧ k ≠ [] ∧ r = joinS k := by
  unfold cleanX
  split
  · rename_i h
    constructor
    · intro e; exact absurd (Prod.mk.inj e).2 h
    · intro ⟨e, _⟩; exact absurd e h
  · rename_i h
    have h : fitsX l = 0 := by simpa using h
    split
    · rename_i e; constructor
      · intro e2; exact absurd (Prod.mk.inj e2).2 (by decide)
      · rintro ⟨_, k, hk, _⟩; rw [e] at hk; cases hk
    · rename_i e; constructor
      · intro e2; exact absurd (Prod.mk.inj e2).2 (by decide)
      · rintro ⟨_, k, hk, hne, _⟩; rw [e] at hk; injection hk with hk; exact absurd hk.symm hne
    · rename_i p ps e; constructor
      · intro e2; exact ⟨h, p :: ps, e, by simp, (Prod.mk.inj e2).1.symm⟩
      · rintro ⟨_, k, hk, hne, rfl⟩; rw [e] at hk; injection hk with hk; rw [hk]

theorem cleanX_bad {l : S} (h : (cleanX l).2 ≠ 0) : (cleanX l).1 = [] := by
  unfold cleanX at h ⊢
  split
  · rfl
  · rename_i h1
    split
    · rfl
    · rfl
    · rename_i e; rw [if_neg h1, e] at h; exact absurd rfl h

/-- a clean name -/
def Cln (p : S) : Prop := p.length ≤ 96 ∧ (∀ c ∈ p, octB c = true) ∧ ∀ q ∈ parts p, Good q

theorem cleanX_self {p : S} : cleanX p = (p, 0) ↔ Cln p := by
  rw [cleanX_ok]
  constructor
  · rintro ⟨h1, k, hk, hne, hp⟩
    obtain ⟨h2, h3⟩ := fitsX_eq.1 h1
    refine ⟨h2, h3, ?_⟩
    obtain ⟨g, _⟩ := goC_inv hk
    have g : ∀ q ∈ k, q ∈ parts p ∧ Good q := fun q hq => by rcases g q hq with h | h; · cases h
                                                             · exact h
    have : parts p = k := by
      have := parts_joinS hne fun q hq => (mem_parts (g q hq).1).1
      rw [hp]; exact this
    rw [this]
    exact fun q hq => (g q hq).2
  · rintro ⟨h1, h2, h3⟩
    exact ⟨fitsX_eq.2 ⟨h1, h2⟩, parts p, by rw [goC_good _ _ h3]; rfl, parts_ne p, (joinS_parts p).symm⟩

theorem goC_clean {l : S} {k : List S} (hf : fitsX l = 0) (hk : goC [] (parts l) = some k) (hne : k ≠ []) : Cln (joinS k) ∧ (joinS k).length ≤ l.length ∧ parts (joinS k) = k ∧ ∀ q ∈ k, Good q := by
  obtain ⟨h2, h3⟩ := fitsX_eq.1 hf
  obtain ⟨g, hw⟩ := goC_inv hk
  have g : ∀ q ∈ k, q ∈ parts l ∧ Good q := fun q hq => by rcases g q hq with h | h; · cases h
                                                           · exact h
  have hp := parts_joinS hne fun q hq => (mem_parts (g q hq).1).1
  have hl : (joinS k).length ≤ l.length := by
    have e1 := joinS_wt hne
    have e2 := joinS_wt (parts_ne l)
    rw [joinS_parts] at e2
    simp only [wt] at hw
    omega
  refine ⟨⟨by omega, fun c hc => ?_, by rw [hp]; exact fun q hq => (g q hq).2⟩, hl, hp, fun q hq => (g q hq).2⟩
  rcases mem_joinS hc with rfl | ⟨q, hq, hc⟩
  · rfl
  · exact h3 c ((mem_parts (g q hq).1).2 c hc)

theorem cleanX_cln {l r : S} (h : cleanX l = (r, 0)) : Cln r ∧ r.length ≤ l.length := by
  obtain ⟨hf, k, hk, hne, rfl⟩ := cleanX_ok.1 h
  obtain ⟨h1, h2, _⟩ := goC_clean hf hk hne
  exact ⟨h1, h2⟩

def chkN (p : S) : Int := if (cleanX p).2 = 0 ∧ (cleanX p).1 = p then 0 else 1

theorem chkN_zero {p : S} : chkN p = 0 ↔ Cln p := by
  rw [← cleanX_self]
  unfold chkN
  split
  · rename_i h; simp only [true_iff]; exact Prod.ext h.2 h.1
  · rename_i h; simp; intro e; rw [e] at h; exact h ⟨rfl, rfl⟩
theorem chkN_or (p : S) : chkN p = 0 ∨ chkN p = 1 := by unfold chkN; split <;> simp

def folN (d : S) : Int := if d = [] then 0 else chkN d
def joinN (d s : S) : S × Int := if folN d ≠ 0 then ([], folN d) else cleanX (d ++ 47 :: s)
def Fol (d : S) : Prop := d = [] ∨ Cln d
theorem folN_zero {d : S} : folN d = 0 ↔ Fol d := by
  unfold folN Fol
  split
  · rename_i h; simp [h]
  · rename_i h; rw [chkN_zero]; simp [h]

/-- in its folder, and its last part -/
def lastI : S → Int
  | [] => -1
  | c :: l => if 0 ≤ lastI l then lastI l + 1 else if c = 47 then 0 else -1
def splitN (p : S) : S × S × Int := if chkN p ≠ 0 then ([], [], chkN p) else (p.take (max (lastI p) 0).toNat, p.drop (lastI p + 1).toNat, 0)
def withinN (d p : S) : Bool × Int := if folN d ≠ 0 ∨ chkN p ≠ 0 then (false, 1) else (decide (d = []) || (d ++ [47]).isPrefixOf p, 0)

theorem lastI_ge (l : S) : -1 ≤ lastI l ∧ lastI l < l.length := by
  induction l with
  | nil => simp [lastI]
  | cons c l ih => unfold lastI; simp only [List.length_cons]; split <;> (try split) <;> omega

theorem lastI_none {l : S} (h : lastI l < 0) : (47 : UInt8) ∉ l := by
  induction l with
  | nil => simp
  | cons c l ih =>
    unfold lastI at h
    split at h
    · omega
    · rename_i h1
      split at h
      · omega
      · rename_i h2
        simp only [List.mem_cons, not_or]
        exact ⟨fun e => h2 e.symm, ih (by omega)⟩

theorem lastI_some {l : S} (h : 0 ≤ lastI l) : l = l.take (lastI l).toNat ++ 47 :: l.drop (lastI l + 1).toNat ∧ (47 : UInt8) ∉ l.drop (lastI l + 1).toNat := by
  induction l with
  | nil => simp [lastI] at h
  | cons c l ih =>
    by_cases h1 : 0 ≤ lastI l
    · have e : lastI (c :: l) = lastI l + 1 := by conv => lhs; unfold lastI; rw [if_pos h1]
      rw [e]
      obtain ⟨i1, i2⟩ := ih h1
      have e1 : (lastI l + 1).toNat = (lastI l).toNat + 1 := by omega
      have e2 : (lastI l + 1 + 1).toNat = (lastI l + 1).toNat + 1 := by omega
      rw [e2, List.drop_succ_cons, e1, List.take_succ_cons, ← e1]
      exact ⟨congrArg (c :: ·) i1, i2⟩
    · have e : lastI (c :: l) = if c = 47 then 0 else -1 := by conv => lhs; unfold lastI; rw [if_neg h1]
      rw [e] at h
      split at h
      · rename_i hc
        subst hc
        rw [e, if_pos rfl]
        simpa using lastI_none (by omega)
      · omega

theorem isPrefixOf_app {a p : S} : a.isPrefixOf p = true ↔ ∃ r, p = a ++ r := by
  rw [List.isPrefixOf_iff_prefix]
  exact ⟨fun ⟨r, h⟩ => ⟨r, h.symm⟩, fun ⟨r, h⟩ => ⟨r, h.symm⟩⟩

/-- a part in front is cut off -/
theorem parts_pre {d p : S} : (∃ r, p = (d ++ [47]) ++ r) ↔ ∃ ps, ps ≠ [] ∧ parts p = parts d ++ ps := by
  constructor
  · rintro ⟨r, rfl⟩
    exact ⟨parts r, parts_ne r, by rw [List.append_assoc, List.singleton_append, parts_app]⟩
  · rintro ⟨ps, hne, h⟩
    refine ⟨joinS ps, ?_⟩
    rw [← joinS_parts p, h, joinS_app (parts_ne d) hne, joinS_parts]; simp

theorem withinN_ok {d p : S} (hd : Fol d) (hp : Cln p) : withinN d p = (@decide (d = [] ∨ ∃ ps, ps ≠ [] ∧ parts p = parts d ++ ps) (Classical.propDecidable _), 0) := by
  unfold withinN
  rw [if_neg (by rw [folN_zero.2 hd, chkN_zero.2 hp]; simp)]
  congr 1
  rw [Bool.eq_iff_iff]
  simp only [Bool.or_eq_true, decide_eq_true_eq, isPrefixOf_app, parts_pre]

end Go.Proofs.YtengjcdilnikhaaDoor

namespace Go.Proofs.YtengjcdilnikhaaDoor
set_option linter.unusedSimpArgs false
set_option linter.unusedVariables false
set_option linter.unnecessarySimpa false
open Go Am

theorem joinN_bad {d a : S} (h : (joinN d a).2 ≠ 0) : (joinN d a).1 = [] := by
  unfold joinN at h ⊢
  split
  · rfl
  · rename_i h1; rw [if_neg h1] at h; exact cleanX_bad h

theorem joinN_ok {d a r : S} : joinN d a = (r, 0) ↔ Fol d ∧ cleanX (d ++ 47 :: a) = (r, 0) := by
  unfold joinN
  split
  · rename_i h
    constructor
    · intro e; exact absurd (Prod.mk.inj e).2 h
    · rintro ⟨h1, _⟩; exact absurd (folN_zero.2 h1) h
  · rename_i h
    have h : folN d = 0 := by simpa using h
    exact ⟨fun e => ⟨folN_zero.1 h, e⟩, fun e => e.2⟩

theorem Good_ne {p : S} (h : Good p) : p ≠ [] := h.1
theorem goC_nil (kept : List S) (ps : List S) : goC kept ([] :: ps) = goC kept ps := by
  conv => lhs; unfold goC
  rfl

/-- what is kept of a folder -/
def fparts (d : S) : List S := if d = [] then [] else parts d
theorem goC_fol {d : S} (h : Fol d) (ps : List S) : goC [] (parts d ++ ps) = goC (fparts d) ps := by
  unfold fparts
  split
  · rename_i e; subst e; exact goC_nil _ _
  · rename_i e
    rcases h with h | h
    · exact absurd h e
    · rw [goC_app, goC_good _ _ h.2.2]; rfl

theorem cln_app {d a : S} (hd : Cln d) (ha : Cln a) (hl : (d ++ 47 :: a).length ≤ 96) : Cln (d ++ 47 :: a) := by
  refine ⟨hl, fun c hc => ?_, fun q hq => ?_⟩
  · rcases List.mem_append.1 hc with h | h
    · exact hd.2.1 c h
    · rcases List.mem_cons.1 h with rfl | h
      · rfl
      · exact ha.2.1 c h
  · rw [parts_app] at hq
    rcases List.mem_append.1 hq with h | h
    · exact hd.2.2 q h
    · exact ha.2.2 q h

theorem Cln_ne {p : S} (h : Cln p) : p ≠ [] := by
  rintro rfl
  exact (h.2.2 [] (by simp [parts])).1 rfl

theorem joinN_clean {d a : S} (hd : Fol d) (ha : Cln a) (hl : (d ++ 47 :: a).length ≤ 96) : joinN d a = (if d = [] then a else d ++ 47 :: a, 0) := by
  rw [joinN_ok]
  refine ⟨hd, ?_⟩
  rcases hd with rfl | hd
  · rw [if_pos rfl, cleanX_ok]
    refine ⟨fitsX_eq.2 ⟨hl, fun c hc => ?_⟩, parts a, ?_, parts_ne a, (joinS_parts a).symm⟩
    · rcases List.mem_cons.1 hc with rfl | h
      · rfl
      · exact ha.2.1 c h
    · rw [List.nil_append, parts_sl, goC_nil, goC_good _ _ ha.2.2]; rfl
  · rw [if_neg (Cln_ne hd), cleanX_self]
    exact cln_app hd ha hl

theorem joinN_in {d a x : S} (h : joinN d a = (x, 0)) (ha : chkN a = 0) : withinN d x = (true, 0) := by
  obtain ⟨hd, hc⟩ := joinN_ok.1 h
  have ha := chkN_zero.1 ha
  obtain ⟨hf, _⟩ := cleanX_ok.1 hc
  have hl := (fitsX_eq.1 hf).1
  rw [joinN_clean hd ha hl] at h
  have hx := (Prod.mk.inj h).1
  rcases hd with rfl | hd
  · rw [if_pos rfl] at hx
    subst hx
    rw [withinN_ok (.inl rfl) ha]; simp
  · rw [if_neg (Cln_ne hd)] at hx
    subst hx
    rw [withinN_ok (.inr hd) (cln_app hd ha hl)]
    simp only [Prod.mk.injEq, decide_eq_true_eq, and_true]
    exact .inr ⟨parts a, parts_ne a, parts_app d a⟩

theorem joinN_two {d a x b : S} (h : joinN d a = (x, 0)) : chkN x = 0 ∧ ((joinN x b).2 = 0 → (joinN d (a ++ 47 :: b)).2 = 3 ∨ ((joinN d (a ++ 47 :: b)).2 = 0 ∧ (joinN x b).1 = (joinN d (a ++ 47 :: b)).1)) := by
  obtain ⟨hd, hc⟩ := joinN_ok.1 h
  have hx := (cleanX_cln hc).1
  refine ⟨chkN_zero.2 hx, fun hy => ?_⟩
  obtain ⟨hf, k, hk, hne, rfl⟩ := cleanX_ok.1 hc
  obtain ⟨_, _, hp, hg⟩ := goC_clean hf hk hne
  have hy' : joinN (joinS k) b = ((joinN (joinS k) b).1, 0) := Prod.ext rfl hy
  obtain ⟨_, hyc⟩ := joinN_ok.1 hy'
  obtain ⟨hyf, k2, hk2, hne2, hr⟩ := cleanX_ok.1 hyc
  rw [parts_app, hp, goC_app, goC_good _ _ hg] at hk2
  have hk2 : goC k (parts b) = some k2 := hk2
  by_cases hl : (d ++ 47 :: (a ++ 47 :: b)).length ≤ 96
  · right
    have : joinN d (a ++ 47 :: b) = (joinS k2, 0) := by
      rw [joinN_ok]
      refine ⟨hd, cleanX_ok.2 ⟨fitsX_eq.2 ⟨hl, fun c hc => ?_⟩, k2, ?_, hne2, rfl⟩⟩
      · have hc : c ∈ (d ++ 47 :: a) ++ 47 :: b := by simpa using hc
        rcases List.mem_append.1 hc with h | h
        · exact (fitsX_eq.1 hf).2 c h
        · exact (fitsX_eq.1 hyf).2 c (List.mem_append.2 (.inr h))
      · have e : d ++ 47 :: (a ++ 47 :: b) = (d ++ 47 :: a) ++ 47 :: b := by simp
        rw [e, parts_app, goC_app, hk]; exact hk2
    rw [this]
    exact ⟨rfl, hr⟩
  · left
    unfold joinN
    rw [if_neg (by rw [folN_zero.2 hd]; simp)]
    have hfx : fitsX (d ++ 47 :: (a ++ 47 :: b)) = 3 := by unfold fitsX; rw [if_pos (by omega)]
    unfold cleanX
    rw [if_pos (by rw [hfx]; decide)]
    exact hfx

theorem splitN_zero {p : S} (h : chkN p = 0) : splitN p = (p.take (max (lastI p) 0).toNat, p.drop (lastI p + 1).toNat, 0) := by
  unfold splitN; rw [if_neg (by simp [h])]

theorem split_cases {p : S} (h : chkN p = 0) : (splitN p = ([], p, 0) ∧ (47 : UInt8) ∉ p) ∨ (∃ d l, splitN p = (d, l, 0) ∧ p = d ++ 47 :: l ∧ (47 : UInt8) ∉ l ∧ Cln d ∧ Cln l) := by
  have hc := chkN_zero.1 h
  rw [splitN_zero h]
  by_cases h0 : 0 ≤ lastI p
  · right
    obtain ⟨e1, e2⟩ := lastI_some h0
    have hm : (max (lastI p) 0).toNat = (lastI p).toNat := by omega
    rw [hm]
    refine ⟨_, _, rfl, e1, e2, ?_, ?_⟩
    · obtain ⟨c1, c2, c3⟩ := hc
      refine ⟨by rw [List.length_take]; omega, fun c hc => c2 c (List.mem_of_mem_take hc), fun q hq => c3 q ?_⟩
      rw [e1, parts_app]; exact List.mem_append.2 (.inl hq)
    · obtain ⟨c1, c2, c3⟩ := hc
      refine ⟨by rw [List.length_drop]; omega, fun c hc => c2 c (List.mem_of_mem_drop hc), fun q hq => c3 q ?_⟩
      rw [e1, parts_app]; exact List.mem_append.2 (.inr hq)
  · left
    have hge := (lastI_ge p).1
    have e : lastI p = -1 := by omega
    rw [e]
    exact ⟨rfl, lastI_none (by omega)⟩

theorem split_one {p d l : S} {e : Int} (h : chkN p = 0) (hs : splitN p = (d, l, e)) : e = 0 ∧ withinN d p = (true, 0) ∧ (d ≠ [] → joinN d l = (p, 0)) ∧ (d = [] → l = p) := by
  rcases split_cases h with ⟨e1, hn⟩ | ⟨d', l', e1, rfl, hn, cd, cl⟩
  · rw [e1] at hs
    obtain ⟨rfl, h2⟩ := Prod.mk.inj hs
    obtain ⟨rfl, rfl⟩ := Prod.mk.inj h2
    refine ⟨rfl, ?_, fun h => absurd rfl h, fun _ => rfl⟩
    rw [withinN_ok (.inl rfl) (chkN_zero.1 h)]; simp
  · rw [e1] at hs
    obtain ⟨rfl, h2⟩ := Prod.mk.inj hs
    obtain ⟨rfl, rfl⟩ := Prod.mk.inj h2
    have hc := chkN_zero.1 h
    refine ⟨rfl, ?_, fun _ => ?_, fun h => absurd h (Cln_ne cd)⟩
    · rw [withinN_ok (.inr cd) hc]
      simp only [Prod.mk.injEq, decide_eq_true_eq, and_true]
      exact .inr ⟨parts l', parts_ne l', parts_app d' l'⟩
    · rw [joinN_clean (.inr cd) cl hc.1, if_neg (Cln_ne cd)]

theorem withinN_bad {d p : S} (h : (withinN d p).2 = 0) : Fol d ∧ Cln p := by
  unfold withinN at h
  split at h
  · exact absurd h (show ¬ (1 : Int) = 0 by decide)
  · rename_i h1
    rw [not_or] at h1
    exact ⟨folN_zero.1 (by simpa using h1.1), chkN_zero.1 (by simpa using h1.2)⟩

theorem split_in {p d l dir : S} {e : Int} (h : chkN p = 0) (hs : splitN p = (d, l, e)) (hw : (withinN dir p).2 = 0) :
    (d = [] → (withinN dir p).1 = decide (dir = [])) ∧ (d ≠ [] → (withinN dir d).2 = 0 ∧ (withinN dir p).1 = ((withinN dir d).1 || decide (dir = d))) := by
  obtain ⟨hd, hp⟩ := withinN_bad hw
  rcases split_cases h with ⟨e1, hn⟩ | ⟨d', l', e1, rfl, hn, cd, cl⟩
  · rw [e1] at hs
    obtain ⟨rfl, h2⟩ := Prod.mk.inj hs
    refine ⟨fun _ => ?_, fun h => absurd rfl h⟩
    rw [withinN_ok hd hp]
    simp only [decide_eq_decide]
    refine ⟨fun h => ?_, .inl⟩
    rcases h with h | ⟨ps, hne, he⟩
    · exact h
    · rw [parts_one hn] at he
      obtain ⟨x, xs, hx⟩ := parts_ex dir
      rw [hx] at he
      have h1 := congrArg List.length he
      have h2 : 0 < ps.length := List.length_pos_iff.2 hne
      simp only [List.length_append, List.length_cons, List.length_nil] at h1
      omega
  · rw [e1] at hs
    obtain ⟨rfl, h2⟩ := Prod.mk.inj hs
    refine ⟨fun h => absurd h (Cln_ne cd), fun _ => ?_⟩
    rw [withinN_ok hd hp, withinN_ok hd cd]
    refine ⟨rfl, ?_⟩
    rw [Bool.eq_iff_iff]
    simp only [decide_eq_true_eq, Bool.or_eq_true]
    rw [parts_app, parts_one hn]
    constructor
    · rintro (h | ⟨ps, hne, he⟩)
      · exact .inl (.inl h)
      · rcases List.eq_nil_or_concat ps with rfl | ⟨ps', x, rfl⟩
        · exact absurd rfl hne
        · rw [List.concat_eq_append, ← List.append_assoc] at he
          obtain ⟨e1, e2⟩ := List.append_inj' he rfl
          by_cases hps : ps' = []
          · subst hps
            refine .inr ?_
            rw [← joinS_parts dir, ← joinS_parts d', e1]; simp
          · exact .inl (.inr ⟨ps', hps, e1⟩)
    · rintro ((h | ⟨ps, hne, he⟩) | rfl)
      · exact .inl h
      · exact .inr ⟨ps ++ [l'], by simp, by rw [he]; simp⟩
      · exact .inr ⟨[l'], by simp, rfl⟩

/-! ### in order -/
structure Tot {α : Type} (c : α → α → Int) : Prop where
  rng : ∀ a b, c a b = -1 ∨ c a b = 0 ∨ c a b = 1
  anti : ∀ a b, c b a = - c a b
  eq0 : ∀ a b, c a b = 0 ↔ a = b
  tr : ∀ x y z, c x y < 0 → c y z < 0 → c x z < 0

def lexC {α : Type} (c : α → α → Int) : List α → List α → Int
  | [], [] => 0
  | [], _ :: _ => -1
  | _ :: _, [] => 1
  | a :: x, b :: y => if c a b ≠ 0 then c a b else lexC c x y

theorem lexC_tot {α : Type} {c : α → α → Int} (h : Tot c) : Tot (lexC c) := by
  refine ⟨fun a b => ?_, fun a b => ?_, fun a b => ?_, fun a b d => ?_⟩
  · induction a generalizing b with
    | nil => cases b <;> simp [lexC]
    | cons x a ih =>
      cases b with
      | nil => simp [lexC]
      | cons y b => unfold lexC; split
                    · exact h.rng x y
                    · exact ih b
  · induction a generalizing b with
    | nil => cases b <;> simp [lexC]
    | cons x a ih =>
      cases b with
      | nil => simp [lexC]
      | cons y b =>
        unfold lexC
        have e := h.anti x y
        by_cases h0 : c x y = 0
        · rw [if_neg (by omega), if_neg (by omega)]; exact ih b
        · rw [if_pos (by omega), if_pos (by omega)]; exact e
  · induction a generalizing b with
    | nil => cases b <;> simp [lexC]
    | cons x a ih =>
      cases b with
      | nil => simp [lexC]
      | cons y b =>
        unfold lexC
        by_cases h0 : c x y = 0
        · rw [if_neg (by omega), ih b, (h.eq0 x y).1 h0]; simp
        · rw [if_pos (by omega)]
          have : x ≠ y := fun e => h0 ((h.eq0 x y).2 e)
          simp [h0, this]
  · induction a generalizing b d with
    | nil => cases b <;> cases d <;> simp [lexC]
    | cons x a ih =>
      cases b with
      | nil => cases d <;> simp [lexC]
      | cons y b =>
        cases d with
        | nil => simp [lexC]
        | cons z d =>
          simp only [lexC]
          intro h1 h2
          by_cases hxy : c x y = 0
          · have e := (h.eq0 x y).1 hxy
            subst e
            rw [if_neg (by omega)] at h1
            by_cases hyz : c x z = 0
            · rw [if_neg (by omega)] at h2 ⊢
              exact ih b d h1 h2
            · rw [if_pos hyz] at h2 ⊢; exact h2
          · rw [if_pos hxy] at h1
            by_cases hyz : c y z = 0
            · have e := (h.eq0 y z).1 hyz
              subst e
              rw [if_pos hxy]; exact h1
            · rw [if_pos hyz] at h2
              have h3 := h.tr x y z h1 h2
              rw [if_pos (by omega)]; exact h3

def cmpU (a b : UInt8) : Int := if a.toNat < b.toNat then -1 else if b.toNat < a.toNat then 1 else 0
theorem cmpU_tot : Tot cmpU := by
  refine ⟨fun a b => ?_, fun a b => ?_, fun a b => ?_, fun a b d => ?_⟩ <;> unfold cmpU
  · split <;> (try split) <;> simp
  · split <;> (try split) <;> (try split) <;> omega
  · rw [← UInt8.toNat_inj]; split <;> (try split) <;> omega
  · intro h1 h2
    split at h1
    · split at h2
      · rw [if_pos (by omega)]; omega
      · split at h2 <;> omega
    · split at h1 <;> omega

abbrev cmpS : S → S → Int := lexC cmpU
abbrev cmpP : List S → List S → Int := lexC cmpS
theorem cmpS_tot : Tot cmpS := lexC_tot cmpU_tot
theorem cmpP_tot : Tot cmpP := lexC_tot cmpS_tot

def cmpN (a b : S) : Int × Int := if chkN a ≠ 0 ∨ chkN b ≠ 0 then (0, 1) else (cmpP (parts a) (parts b), 0)

theorem cmpN_ok {a b : S} (ha : Cln a) (hb : Cln b) : cmpN a b = (cmpP (parts a) (parts b), 0) := by
  unfold cmpN; rw [if_neg (by rw [chkN_zero.2 ha, chkN_zero.2 hb]; simp)]
theorem cmpN_bad {a b : S} (h : (cmpN a b).2 = 0) : Cln a ∧ Cln b := by
  unfold cmpN at h
  split at h
  · exact absurd h (show ¬ (1 : Int) = 0 by decide)
  · rename_i h1
    rw [not_or] at h1
    exact ⟨chkN_zero.1 (by simpa using h1.1), chkN_zero.1 (by simpa using h1.2)⟩
theorem parts_inj {a b : S} (h : parts a = parts b) : a = b := by rw [← joinS_parts a, ← joinS_parts b, h]

theorem order_one (a b : S) : ((cmpN a b).2 ≠ 0 → (cmpN a b).1 = 0 ∧ (cmpN b a).2 = (cmpN a b).2) ∧
    ((cmpN a b).2 = 0 → (cmpN b a).2 = 0 ∧ (cmpN a b).1 = -(cmpN b a).1 ∧ ((cmpN a b).1 = 0 ↔ a = b) ∧ -1 ≤ (cmpN a b).1 ∧ (cmpN a b).1 ≤ 1) := by
  constructor
  · intro h
    unfold cmpN at h ⊢
    split at h
    · rename_i h1
      rw [if_pos h1, if_pos (Or.comm.1 h1)]
      exact ⟨rfl, rfl⟩
    · exact absurd rfl h
  · intro h
    obtain ⟨ha, hb⟩ := cmpN_bad h
    rw [cmpN_ok ha hb, cmpN_ok hb ha]
    refine ⟨rfl, ?_, ?_, ?_, ?_⟩
    · have := cmpP_tot.anti (parts a) (parts b); simp only; omega
    · simp only; rw [cmpP_tot.eq0]; exact ⟨parts_inj, fun e => by rw [e]⟩
    · rcases cmpP_tot.rng (parts a) (parts b) with e | e | e <;> simp only [e] <;> decide
    · rcases cmpP_tot.rng (parts a) (parts b) with e | e | e <;> simp only [e] <;> decide

theorem order_three (a b c : S) (h1 : (cmpN a b).2 = 0) (h2 : (cmpN b c).2 = 0) : (cmpN a c).2 = 0 ∧ ((cmpN a b).1 < 0 → (cmpN b c).1 < 0 → (cmpN a c).1 < 0) := by
  obtain ⟨ha, hb⟩ := cmpN_bad h1
  obtain ⟨_, hc⟩ := cmpN_bad h2
  rw [cmpN_ok ha hb, cmpN_ok hb hc, cmpN_ok ha hc]
  exact ⟨rfl, cmpP_tot.tr _ _ _⟩

theorem lexC_pre {α : Type} {c : α → α → Int} (h : Tot c) (d r s : List α) : lexC c (d ++ r) (d ++ s) = lexC c r s := by
  induction d with
  | nil => rfl
  | cons x d ih => rw [List.cons_append, List.cons_append]; conv => lhs; unfold lexC
                   rw [if_neg (by simp [(h.eq0 x x).2 rfl])]; exact ih

/-- what is between two that begin alike begins so -/
theorem lexC_mid {α : Type} {c : α → α → Int} (h : Tot c) (d r s y : List α) (hy : lexC c (d ++ r) y ≤ 0) (hz : lexC c y (d ++ s) ≤ 0) : ∃ q, y = d ++ q := by
  induction d generalizing y with
  | nil => exact ⟨y, rfl⟩
  | cons x d ih =>
    cases y with
    | nil => simp [lexC] at hy
    | cons a y =>
      simp only [List.cons_append, lexC] at hy hz
      have e := h.anti x a
      by_cases h0 : c x a = 0
      · rw [if_neg (by omega)] at hy hz
        obtain ⟨q, hq⟩ := ih y hy hz
        exact ⟨q, by rw [hq, (h.eq0 x a).1 h0]; rfl⟩
      · rw [if_pos (by omega)] at hy hz
        omega

theorem together_mid {dir a b c : S} (ha : (withinN dir a) = (true, 0)) (hc : (withinN dir c) = (true, 0)) (hb : (withinN dir b).2 = 0) (h1 : (cmpN a b).2 = 0) (h2 : (cmpN b c).2 = 0)
    (l : (cmpN a b).1 ≤ 0) (m : (cmpN b c).1 ≤ 0) : (withinN dir b).1 = true := by
  obtain ⟨ca, cb⟩ := cmpN_bad h1
  obtain ⟨_, cc⟩ := cmpN_bad h2
  obtain ⟨fd, _⟩ := withinN_bad hb
  rw [withinN_ok fd ca] at ha
  rw [withinN_ok fd cc] at hc
  rw [withinN_ok fd cb]
  rw [cmpN_ok ca cb] at l
  rw [cmpN_ok cb cc] at m
  simp only [Prod.mk.injEq, decide_eq_true_eq, and_true] at ha hc ⊢
  rcases ha with ha | ⟨r, hr, ea⟩
  · exact .inl ha
  rcases hc with hc | ⟨s, hs, ec⟩
  · exact .inl hc
  rw [ea] at l
  rw [ec] at m
  obtain ⟨q, hq⟩ := lexC_mid cmpS_tot (parts dir) r s (parts b) l m
  refine .inr ⟨q, ?_, hq⟩
  rintro rfl
  rw [hq] at l
  have : cmpP (parts dir ++ r) (parts dir ++ []) = cmpP r [] := lexC_pre cmpS_tot (parts dir) r []
  have l : cmpP (parts dir ++ r) (parts dir ++ []) ≤ 0 := l
  rw [this] at l
  cases r with
  | nil => exact hr rfl
  | cons x r => simp [lexC] at l

theorem together_dir {dir a : S} (ha : (withinN dir a) = (true, 0)) (hd : dir ≠ []) : (cmpN dir a).2 = 0 ∧ (cmpN dir a).1 < 0 := by
  obtain ⟨fd, ca⟩ := withinN_bad (by rw [ha])
  have cd : Cln dir := fd.resolve_left hd
  rw [withinN_ok fd ca] at ha
  rw [cmpN_ok cd ca]
  simp only [Prod.mk.injEq, decide_eq_true_eq, and_true, true_and] at ha ⊢
  rcases ha with ha | ⟨r, hr, ea⟩
  · exact absurd ha hd
  rw [ea]
  have : cmpP (parts dir ++ []) (parts dir ++ r) = cmpP [] r := lexC_pre cmpS_tot (parts dir) [] r
  rw [List.append_nil] at this
  rw [this]
  cases r with
  | nil => exact absurd rfl hr
  | cons x r => simp [lexC]

end Go.Proofs.YtengjcdilnikhaaDoor
