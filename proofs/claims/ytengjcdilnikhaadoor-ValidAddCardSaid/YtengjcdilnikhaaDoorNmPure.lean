/-
  Names: plain laws (parts, cleaning).
-/
import Derived.Test.YtengjcdilnikhaaDoorNmSpec
namespace Go.Proofs.YtengjcdilnikhaaDoor
set_option linter.unusedSimpArgs false
set_option linter.unusedVariables false
set_option linter.unnecessarySimpa false
open Go Am

abbrev S := List UInt8
def Good (p : S) : Prop := p ≠ [] ∧ p ≠ [46] ∧ p ≠ [46, 46]
instance (p : S) : Decidable (Good p) := by unfold Good; infer_instance

theorem parts_ne (l : S) : parts l ≠ [] := by
  cases l with
  | nil => simp [parts]
  | cons c l =>
    unfold parts
    split
    · simp
    · split <;> simp

theorem parts_sl (l : S) : parts (47 :: l) = [] :: parts l := by simp [parts]
theorem parts_cons {c : UInt8} (hc : c ≠ 47) {l : S} {p : S} {ps : List S} (h : parts l = p :: ps) : parts (c :: l) = (c :: p) :: ps := by
  unfold parts
  rw [if_neg hc, h]

theorem parts_ex (l : S) : ∃ p ps, parts l = p :: ps := by
  match h : parts l with
  | [] => exact absurd h (parts_ne l)
  | p :: ps => exact ⟨p, ps, rfl⟩

theorem parts_app (a b : S) : parts (a ++ 47 :: b) = parts a ++ parts b := by
  induction a with
  | nil => rw [List.nil_append, parts_sl]; rfl
  | cons c a ih =>
    by_cases hc : c = 47
    · subst hc; rw [List.cons_append, parts_sl, parts_sl, ih]; rfl
    · obtain ⟨p, ps, h⟩ := parts_ex a
      rw [h] at ih
      rw [List.cons_append, parts_cons hc ih, parts_cons hc h]; rfl

theorem parts_one {p : S} (h : (47 : UInt8) ∉ p) : parts p = [p] := by
  induction p with
  | nil => rfl
  | cons c p ih =>
    simp only [List.mem_cons, not_or] at h
    exact parts_cons (fun e => h.1 e.symm) (ih h.2)

theorem mem_parts {l q : S} (h : q ∈ parts l) : (47 : UInt8) ∉ q ∧ ∀ c ∈ q, c ∈ l := by
  induction l generalizing q with
  | nil => simp [parts] at h; subst h; simp
  | cons c l ih =>
    by_cases hc : c = 47
    · subst hc
      rw [parts_sl] at h
      rcases List.mem_cons.1 h with rfl | h
      · simp
      · exact ⟨(ih h).1, fun x hx => List.mem_cons_of_mem _ ((ih h).2 x hx)⟩
    · obtain ⟨p, ps, hp⟩ := parts_ex l
      rw [parts_cons hc hp] at h
      have hm : ∀ q ∈ p :: ps, (47 : UInt8) ∉ q ∧ ∀ c ∈ q, c ∈ l := fun q hq => ih (by rw [hp]; exact hq)
      rcases List.mem_cons.1 h with rfl | h
      · obtain ⟨h1, h2⟩ := hm p (List.mem_cons_self ..)
        refine ⟨fun hx => ?_, fun x hx => ?_⟩
        · rcases List.mem_cons.1 hx with e | e
          · exact hc e.symm
          · exact h1 e
        · rcases List.mem_cons.1 hx with rfl | e
          · exact List.mem_cons_self ..
          · exact List.mem_cons_of_mem _ (h2 x e)
      · obtain ⟨h1, h2⟩ := hm q (List.mem_cons_of_mem _ h)
        exact ⟨h1, fun x hx => List.mem_cons_of_mem _ (h2 x hx)⟩

theorem joinS_cons {p : S} {ps : List S} (h : ps ≠ []) : joinS (p :: ps) = p ++ 47 :: joinS ps := by
  match ps with
  | q :: qs => rfl

theorem joinS_app {a b : List S} (ha : a ≠ []) (hb : b ≠ []) : joinS (a ++ b) = joinS a ++ 47 :: joinS b := by
  induction a with
  | nil => exact absurd rfl ha
  | cons p a ih =>
    by_cases h : a = []
    · subst h; rw [List.cons_append, List.nil_append, joinS_cons hb]; rfl
    · rw [List.cons_append, joinS_cons (by simp [h]), ih h, joinS_cons h]; simp

theorem joinS_parts (l : S) : joinS (parts l) = l := by
  induction l with
  | nil => rfl
  | cons c l ih =>
    by_cases hc : c = 47
    · subst hc; rw [parts_sl, joinS_cons (parts_ne l), ih]; rfl
    · obtain ⟨p, ps, hp⟩ := parts_ex l
      rw [parts_cons hc hp]
      rw [hp] at ih
      by_cases h : ps = []
      · subst h; rw [← ih]; rfl
      · rw [joinS_cons h] at ih ⊢; rw [← ih]; rfl

theorem parts_joinS {ps : List S} (h : ps ≠ []) (hs : ∀ q ∈ ps, (47 : UInt8) ∉ q) : parts (joinS ps) = ps := by
  induction ps with
  | nil => exact absurd rfl h
  | cons p ps ih =>
    by_cases hp : ps = []
    · subst hp; exact parts_one (hs p (List.mem_cons_self ..))
    · rw [joinS_cons hp, parts_app, parts_one (hs p (List.mem_cons_self ..)), ih hp fun q hq => hs q (List.mem_cons_of_mem _ hq)]; rfl

def wt : List S → Nat
  | [] => 0
  | p :: ps => p.length + 1 + wt ps

theorem joinS_wt {ps : List S} (h : ps ≠ []) : (joinS ps).length + 1 = wt ps := by
  induction ps with
  | nil => exact absurd rfl h
  | cons p ps ih =>
    by_cases hp : ps = []
    · subst hp; simp [joinS, wt]
    · rw [joinS_cons hp]; have := ih hp; simp [wt]; omega

theorem wt_app (a b : List S) : wt (a ++ b) = wt a + wt b := by
  induction a with
  | nil => simp [wt]
  | cons p a ih => simp [wt, ih]; omega

theorem wt_dropLast (a : List S) : wt a.dropLast ≤ wt a := by
  induction a with
  | nil => simp [wt]
  | cons p a ih =>
    cases a with
    | nil => simp [wt]
    | cons q a => rw [List.dropLast_cons_cons]; simp only [wt] at ih ⊢; omega

theorem mem_joinS {ps : List S} {c : UInt8} (h : c ∈ joinS ps) : c = 47 ∨ ∃ p ∈ ps, c ∈ p := by
  induction ps with
  | nil => simp [joinS] at h
  | cons p ps ih =>
    by_cases hp : ps = []
    · subst hp; exact .inr ⟨p, List.mem_cons_self .., h⟩
    · rw [joinS_cons hp] at h
      rcases List.mem_append.1 h with h | h
      · exact .inr ⟨p, List.mem_cons_self .., h⟩
      · rcases List.mem_cons.1 h with h | h
        · exact .inl h
        · rcases ih h with h | ⟨q, hq, hc⟩
          · exact .inl h
          · exact .inr ⟨q, List.mem_cons_of_mem _ hq, hc⟩

theorem stepC_good {kept : List S} {p : S} (h : Good p) : stepC kept p = some (kept ++ [p]) := by
  unfold stepC
  obtain ⟨h1, h2, h3⟩ := h
  rw [if_neg (by simp [h1, h2]), if_neg h3]

theorem goC_good (kept : List S) (ps : List S) (h : ∀ q ∈ ps, Good q) : goC kept ps = some (kept ++ ps) := by
  induction ps generalizing kept with
  | nil => simp [goC]
  | cons p ps ih =>
    unfold goC
    rw [stepC_good (h p (List.mem_cons_self ..))]
    simp only
    rw [ih _ fun q hq => h q (List.mem_cons_of_mem _ hq)]; simp

theorem goC_app (kept a b : List S) : goC kept (a ++ b) = (goC kept a).bind fun k => goC k b := by
  induction a generalizing kept with
  | nil => simp [goC]
  | cons p a ih =>
    rw [List.cons_append]
    have e1 : ∀ l, goC kept (p :: l) = match stepC kept p with
        | some k => goC k l
        | none => none := fun l => rfl
    rw [e1, e1]
    cases h : stepC kept p with
    | none => rfl
    | some k => exact ih k

theorem stepC_inv {kept k : List S} {p : S} (h : stepC kept p = some k) : (∀ q ∈ k, q ∈ kept ∨ (q = p ∧ Good q)) ∧ wt k ≤ wt kept + wt [p] := by
  unfold stepC at h
  split at h
  · injection h with h; subst h; exact ⟨fun q hq => .inl hq, by omega⟩
  · rename_i h1
    split at h
    · split at h
      · cases h
      · injection h with h; subst h; exact ⟨fun q hq => .inl (List.dropLast_subset _ hq), by have := wt_dropLast kept; omega⟩
    · rename_i h2
      injection h with h; subst h
      refine ⟨fun q hq => ?_, by rw [wt_app]; omega⟩
      rcases List.mem_append.1 hq with hq | hq
      · exact .inl hq
      · rw [List.mem_singleton] at hq; subst hq
        rw [not_or] at h1
        exact .inr ⟨rfl, h1.1, h1.2, h2⟩

theorem goC_inv {kept ps k : List S} (h : goC kept ps = some k) : (∀ q ∈ k, q ∈ kept ∨ (q ∈ ps ∧ Good q)) ∧ wt k ≤ wt kept + wt ps := by
  induction ps generalizing kept with
  | nil => simp [goC] at h; subst h; exact ⟨fun q hq => .inl hq, by simp [wt]⟩
  | cons p ps ih =>
    unfold goC at h
    split at h
    · rename_i k1 h1
      obtain ⟨a1, a2⟩ := stepC_inv h1
      obtain ⟨b1, b2⟩ := ih h
      refine ⟨fun q hq => ?_, by simp only [wt] at a2 b2 ⊢; omega⟩
      rcases b1 q hq with hq | ⟨hq, hg⟩
      · rcases a1 q hq with hq | ⟨rfl, hg⟩
        · exact .inl hq
        · exact .inr ⟨List.mem_cons_self .., hg⟩
      · exact .inr ⟨List.mem_cons_of_mem _ hq, hg⟩
    · cases h

theorem fitsX_eq {l : S} : fitsX l = 0 ↔ l.length ≤ 96 ∧ ∀ c ∈ l, octB c = true := by
  unfold fitsX
  split
  · simp; omega
  · split
    · rename_i h1 h2; simp only [List.all_eq_true] at h2; simp; exact ⟨by omega, h2⟩
    · rename_i h1 h2
      simp only [List.all_eq_true] at h2
      exact ⟨fun e => absurd e (by decide), fun e => absurd e.2 h2⟩

theorem cleanX_ok {l r : S} : cleanX l = (r, 0) ↔ fitsX l = 0 ∧ ∃ k, goC [] (parts l) = some k ∧ k ≠ [] ∧ r = joinS k := by
  unfold cleanX
  split
  · rename_i h
    constructor
    · intro e; exact absurd (Prod.mk.inj e).2 h
    · intro ⟨e, _⟩; exact absurd e h
  · rename_i h
    have h : fitsX l = 0 := by simpa using h
    split
    · rename_i e; constructor
      · intro e2; exact absurd (Prod.mk.inj e2).2 (by decide)
      · rintro ⟨_, k, hk, _⟩; rw [e] at hk; cases hk
    · rename_i e; constructor
      · intro e2; exact absurd (Prod.mk.inj e2).2 (by decide)
      · rintro ⟨_, k, hk, hne, _⟩; rw [e] at hk; injection hk with hk; exact absurd hk.symm hne
    · rename_i p ps e; constructor
      · intro e2; exact ⟨h, p :: ps, e, by simp, (Prod.mk.inj e2).1.symm⟩
      · rintro ⟨_, k, hk, hne, rfl⟩; rw [e] at hk; injection hk with hk; rw [hk]

theorem cleanX_bad {l : S} (h : (cleanX l).2 ≠ 0) : (cleanX l).1 = [] := by
  unfold cleanX at h ⊢
  split
  · rfl
  · rename_i h1
    split
    · rfl
    · rfl
    · rename_i e; rw [if_neg h1, e] at h; exact absurd rfl h

/-- a clean name -/
def Cln (p : S) : Prop := p.length ≤ 96 ∧ (∀ c ∈ p, octB c = true) ∧ ∀ q ∈ parts p, Good q

theorem cleanX_self {p : S} : cleanX p = (p, 0) ↔ Cln p := by
  rw [cleanX_ok]
  constructor
  · rintro ⟨h1, k, hk, hne, hp⟩
    obtain ⟨h2, h3⟩ := fitsX_eq.1 h1
    refine ⟨h2, h3, ?_⟩
    obtain ⟨g, _⟩ := goC_inv hk
    have g : ∀ q ∈ k, q ∈ parts p ∧ Good q := fun q hq => by rcases g q hq with h | h; · cases h
                                                             · exact h
    have : parts p = k := by
      have := parts_joinS hne fun q hq => (mem_parts (g q hq).1).1
      rw [hp]; exact this
    rw [this]
    exact fun q hq => (g q hq).2
  · rintro ⟨h1, h2, h3⟩
    exact ⟨fitsX_eq.2 ⟨h1, h2⟩, parts p, by rw [goC_good _ _ h3]; rfl, parts_ne p, (joinS_parts p).symm⟩

theorem goC_clean {l : S} {k : List S} (hf : fitsX l = 0) (hk : goC [] (parts l) = some k) (hne : k ≠ []) : Cln (joinS k) ∧ (joinS k).length ≤ l.length ∧ parts (joinS k) = k ∧ ∀ q ∈ k, Good q := by
  obtain ⟨h2, h3⟩ := fitsX_eq.1 hf
  obtain ⟨g, hw⟩ := goC_inv hk
  have g : ∀ q ∈ k, q ∈ parts l ∧ Good q := fun q hq => by rcases g q hq with h | h; · cases h
                                                           · exact h
  have hp := parts_joinS hne fun q hq => (mem_parts (g q hq).1).1
  have hl : (joinS k).length ≤ l.length := by
    have e1 := joinS_wt hne
    have e2 := joinS_wt (parts_ne l)
    rw [joinS_parts] at e2
    simp only [wt] at hw
    omega
  refine ⟨⟨by omega, fun c hc => ?_, by rw [hp]; exact fun q hq => (g q hq).2⟩, hl, hp, fun q hq => (g q hq).2⟩
  rcases mem_joinS hc with rfl | ⟨q, hq, hc⟩
  · rfl
  · exact h3 c ((mem_parts (g q hq).1).2 c hc)

theorem cleanX_cln {l r : S} (h : cleanX l = (r, 0)) : Cln r ∧ r.length ≤ l.length := by
  obtain ⟨hf, k, hk, hne, rfl⟩ := cleanX_ok.1 h
  obtain ⟨h1, h2, _⟩ := goC_clean hf hk hne
  exact ⟨h1, h2⟩

def chkN (p : S) : Int := if (cleanX p).2 = 0 ∧ (cleanX p).1 = p then 0 else 1

theorem chkN_zero {p : S} : chkN p = 0 ↔ Cln p := by
  rw [← cleanX_self]
  unfold chkN
  split
  · rename_i h; simp only [true_iff]; exact Prod.ext h.2 h.1
  · rename_i h; simp; intro e; rw [e] at h; exact h ⟨rfl, rfl⟩
theorem chkN_or (p : S) : chkN p = 0 ∨ chkN p = 1 := by unfold chkN; split <;> simp

def folN (d : S) : Int := if d = [] then 0 else chkN d
def joinN (d s : S) : S × Int := if folN d ≠ 0 then ([], folN d) else cleanX (d ++ 47 :: s)
def Fol (d : S) : Prop := d = [] ∨ Cln d
theorem folN_zero {d : S} : folN d = 0 ↔ Fol d := by
  unfold folN Fol
  split
  · rename_i h; simp [h]
  · rename_i h; rw [chkN_zero]; simp [h]

/-- in its folder, and its last part -/
def lastI : S → Int
  | [] => -1
  | c :: l => if 0 ≤ lastI l then lastI l + 1 else if c = 47 then 0 else -1
def splitN (p : S) : S × S × Int := if chkN p ≠ 0 then ([], [], chkN p) else (p.take (max (lastI p) 0).toNat, p.drop (lastI p + 1).toNat, 0)
def withinN (d p : S) : Bool × Int := if folN d ≠ 0 ∨ chkN p ≠ 0 then (false, 1) else (decide (d = []) || (d ++ [47]).isPrefixOf p, 0)

theorem lastI_ge (l : S) : -1 ≤ lastI l ∧ lastI l < l.length := by
  induction l with
  | nil => simp [lastI]
  | cons c l ih => unfold lastI; simp only [List.length_cons]; split <;> (try split) <;> omega

theorem lastI_none {l : S} (h : lastI l < 0) : (47 : UInt8) ∉ l := by
  induction l with
  | nil => simp
  | cons c l ih =>
    unfold lastI at h
    split at h
    · omega
    · rename_i h1
      split at h
      · omega
      · rename_i h2
        simp only [List.mem_cons, not_or]
        exact ⟨fun e => h2 e.symm, ih (by omega)⟩

theorem lastI_some {l : S} (h : 0 ≤ lastI l) : l = l.take (lastI l).toNat ++ 47 :: l.drop (lastI l + 1).toNat ∧ (47 : UInt8) ∉ l.drop (lastI l + 1).toNat := by
  induction l with
  | nil => simp [lastI] at h
  | cons c l ih =>
    by_cases h1 : 0 ≤ lastI l
    · have e : lastI (c :: l) = lastI l + 1 := by conv => lhs; unfold lastI; rw [if_pos h1]
      rw [e]
      obtain ⟨i1, i2⟩ := ih h1
      have e1 : (lastI l + 1).toNat = (lastI l).toNat + 1 := by omega
      have e2 : (lastI l + 1 + 1).toNat = (lastI l + 1).toNat + 1 := by omega
      rw [e2, List.drop_succ_cons, e1, List.take_succ_cons, ← e1]
      exact ⟨congrArg (c :: ·) i1, i2⟩
    · have e : lastI (c :: l) = if c = 47 then 0 else -1 := by conv => lhs; unfold lastI; rw [if_neg h1]
      rw [e] at h
      split at h
      · rename_i hc
        subst hc
        rw [e, if_pos rfl]
        simpa using lastI_none (by omega)
      · omega

theorem isPrefixOf_app {a p : S} : a.isPrefixOf p = true ↔ ∃ r, p = a ++ r := by
  rw [List.isPrefixOf_iff_prefix]
  exact ⟨fun ⟨r, h⟩ => ⟨r, h.symm⟩, fun ⟨r, h⟩ => ⟨r, h.symm⟩⟩

/-- a part in front is cut off -/
theorem parts_pre {d p : S} : (∃ r, p = (d ++ [47]) ++ r) ↔ ∃ ps, ps ≠ [] ∧ parts p = parts d ++ ps := by
  constructor
  · rintro ⟨r, rfl⟩
    exact ⟨parts r, parts_ne r, by rw [List.append_assoc, List.singleton_append, parts_app]⟩
  · rintro ⟨ps, hne, h⟩
    refine ⟨joinS ps, ?_⟩
    rw [← joinS_parts p, h, joinS_app (parts_ne d) hne, joinS_parts]; simp

theorem withinN_ok {d p : S} (hd : Fol d) (hp : Cln p) : withinN d p = (@decide (d = [] ∨ ∃ ps, ps ≠ [] ∧ parts p = parts d ++ ps) (Classical.propDecidable _), 0) := by
  unfold withinN
  rw [if_neg (by rw [folN_zero.2 hd, chkN_zero.2 hp]; simp)]
  congr 1
  rw [Bool.eq_iff_iff]
  simp only [Bool.or_eq_true, decide_eq_true_eq, isPrefixOf_app, parts_pre]

end Go.Proofs.YtengjcdilnikhaaDoor
