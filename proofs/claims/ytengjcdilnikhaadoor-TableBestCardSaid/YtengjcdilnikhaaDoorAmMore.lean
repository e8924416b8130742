/-
  More rules: nil in an own cell, as an own row; The check of a drawn region, quick for great ones.
-/
import Derived.Test.YtengjcdilnikhaaDoorAmCame
namespace Go.Proofs.YtengjcdilnikhaaDoor
set_option linter.unusedSimpArgs false
set_option linter.unusedVariables false
set_option linter.unnecessarySimpa false
open Go Am
namespace Am

/-- a cell that holds nil holds an own row of no cells -/
theorem AWP.virtO {P : Program} {C : Ctx} {Q : Exit → St → Prop} {c : Code} {t : Nat → AV} {h : Heap} {n : Nat} (id k : Nat) {blk : Blk} (hb : h id = some blk) (hk : blk.cells[k]? = some (.p (.v (.slice none 0 0))))
    (K : AWP P C c Q ⟨t, Am.upd (Am.upd h id ⟨blk.ver, blk.cells.set k (.win (C.b + n) 0 0 0 0)⟩) (C.b + n) ⟨0, []⟩, n + 1⟩) : AWP P C c Q ⟨t, h, n⟩ := by
  refine .weak (fun a w ι I => ⟨ι, ?_⟩) K
  have hbn : ∀ i, C.b + n ≤ i → h i = none := I.bound
  have hidn : id < C.b + n := by
    rcases Nat.lt_or_ge id (C.b + n) with h1 | h1
    · exact h1
    · have := hbn id h1; rw [hb] at this; cases this
  have hne : blk.cells ≠ [] := fun h => by rw [h] at hk; simp at hk
  generalize hh2 : Am.upd (Am.upd h id ⟨blk.ver, blk.cells.set k (.win (C.b + n) 0 0 0 0)⟩) (C.b + n) ⟨0, []⟩ = h2
  have hat : ∀ i b', h2 i = some b' → (i = C.b + n ∧ b' = ⟨0, []⟩) ∨ (i = id ∧ b' = ⟨blk.ver, blk.cells.set k (.win (C.b + n) 0 0 0 0)⟩) ∨ (i ≠ id ∧ i < C.b + n ∧ h i = some b') := by
    intro i b' e
    subst hh2
    by_cases h1 : i = C.b + n
    · subst h1; rw [upd_same] at e; injection e with e; exact .inl ⟨rfl, e.symm⟩
    · rw [upd_ne _ _ _ _ h1] at e
      by_cases h3 : i = id
      · subst h3; rw [upd_same] at e; injection e with e; exact .inr (.inl ⟨rfl, e.symm⟩)
      · rw [upd_ne _ _ _ _ h3] at e
        refine .inr (.inr ⟨h3, ?_, e⟩)
        rcases Nat.lt_or_ge i (C.b + n) with h4 | h4
        · exact h4
        · rw [hbn i h4] at e; cases e
  have hat0 : h2 (C.b + n) = some ⟨0, []⟩ := by subst hh2; exact upd_same _ _ _
  have M : Moves ι h (C.b + n) w ι h2 (C.b + (n + 1)) w := by
    refine ⟨by omega, fun b hs _ i b' e ne => ?_, fun _ _ _ => rfl, fun i hi b' e => ?_⟩
    · rcases hat i b' e with ⟨rfl, rfl⟩ | ⟨rfl, rfl⟩ | ⟨_, _, e⟩
      · exact absurd rfl ne
      · exact hs i blk hb hne
      · exact hs i b' e ne
    · rcases hat i b' e with ⟨rfl, rfl⟩ | ⟨rfl, rfl⟩ | ⟨_, _, e⟩
      · omega
      · exact ⟨blk, hb, Nat.le_refl _, fun _ => rfl⟩
      · exact ⟨b', e, Nat.le_refl _, fun _ => rfl⟩
  refine ⟨fun i hi b' e => ?_, fun i hi b' e ne => ?_, fun i hi => ?_, ⟨fun i b' e ne => ?_, fun x y bx by' hx hy nx ny hxy => ?_⟩, fun x => (I.tmps x).move M, I.ntmps, I.defers, I.keeps⟩
  · rcases hat i b' e with ⟨rfl, rfl⟩ | ⟨rfl, rfl⟩ | ⟨_, _, e⟩
    · omega
    · obtain ⟨b0, k0, k1, k2⟩ := I.outer i hi blk hb
      refine ⟨b0, k0, k1, ?_⟩
      rcases k2 with ⟨k2, k3⟩ | ⟨k2, k3⟩
      · exact .inl ⟨by simp [k2], k3⟩
      · exact .inr ⟨k2, fun _ => k3 hne⟩
    · exact I.outer i hi b' e
  · rcases hat i b' e with ⟨rfl, rfl⟩ | ⟨rfl, rfl⟩ | ⟨_, _, e⟩
    · exact absurd rfl ne
    · exact I.fresh i hi blk hb hne
    · exact I.fresh i hi b' e ne
  · have hi2 : C.b + (n + 1) ≤ i := hi
    show h2 i = none
    cases e : h2 i with
    | none => rfl
    | some b' =>
      rcases hat i b' e with ⟨rfl, rfl⟩ | ⟨rfl, rfl⟩ | ⟨_, h4, e⟩ <;> omega
  · rcases hat i b' e with ⟨rfl, rfl⟩ | ⟨rfl, rfl⟩ | ⟨_, _, e⟩
    · exact absurd rfl ne
    · obtain ⟨c0, ty, g1, g2, g3⟩ := I.heap.blk i blk hb hne
      refine ⟨c0, ty, g1, by rw [g2, List.length_set], fun j d u hd hu => ?_⟩
      rw [List.getElem?_set] at hd
      by_cases hjk : k = j
      · subst hjk
        have hlt : k < blk.cells.length := (List.getElem?_eq_some_iff.1 hk).1
        rw [if_pos rfl, if_pos hlt] at hd
        injection hd with hd
        subst hd
        have hu2 : u = .slice none 0 0 := by
          have hr := g3 k _ u hk hu
          have := rav_v_inv (.one hr)
          exact this
        subst hu2
        show RCell ι h2 (C.b + (n + 1)) w _ _
        exact .win (by omega) (fun b0 e0 => by rw [hat0] at e0; injection e0 with e0; subst e0; exact Nat.le_refl _) (fun _ _ _ => ⟨Nat.le_refl _, .inr ⟨rfl, rfl, rfl⟩⟩)
      · rw [if_neg hjk] at hd
        exact (g3 j d u hd hu).move M
    · obtain ⟨c0, ty, g1, g2, g3⟩ := I.heap.blk i b' e ne
      exact ⟨c0, ty, g1, g2, fun j d u hd hu => (g3 j d u hd hu).move M⟩
  · have key : ∀ i b', h2 i = some b' → b'.cells ≠ [] → ∃ b0, h i = some b0 ∧ b0.cells ≠ [] := by
      intro i b' e ne
      rcases hat i b' e with ⟨rfl, rfl⟩ | ⟨rfl, rfl⟩ | ⟨_, _, e⟩
      · exact absurd rfl ne
      · exact ⟨blk, hb, hne⟩
      · exact ⟨b', e, ne⟩
    obtain ⟨b1, e1, n1⟩ := key x bx hx nx
    obtain ⟨b2, e2, n2⟩ := key y by' hy ny
    exact I.heap.inj x y b1 b2 e1 e2 n1 n2 hxy
/-- an own cell that holds nil holds an own row of no cells -/
theorem AWP.virtH {P : Program} {C : Ctx} {Q : Exit → St → Prop} {c : Code} {t : Nat → AV} {h : Heap} {n : Nat} (id k : Nat) {blk : Blk} (_hid : C.b ≤ id) (hb : h id = some blk) (hk : blk.cells[k]? = some (.p (.v (.slice none 0 0))))
    (K : AWP P C c Q ⟨t, Am.upd (Am.upd h id ⟨blk.ver, blk.cells.set k (.win (C.b + n) 0 0 0 0)⟩) (C.b + n) ⟨0, []⟩, n + 1⟩) : AWP P C c Q ⟨t, h, n⟩ := AWP.virtO id k hb hk K


theorem Sub.at {a H : Heap} {k : Nat} {x : Blk} (s : Sub a H) (e : a k = some ⟨x.ver, []⟩) : Sub a (Am.upd H k x) :=
  s.upd (fun c hc => by rw [e] at hc; injection hc with hc; subst hc; exact ⟨rfl, rfl⟩)

/-- a value in which no own number stands -/
def pureV (a : AV) : Prop := ∀ (ι : Nat → Nat) (h : Heap) (bd bd' : Nat) (w : World) (v : Value), RAV ι h bd w a v → RAV ι h bd' w a v

theorem pureV_one (d : PD) : pureV (.one (.p d)) := fun _ _ _ _ _ _ h => by
  cases h with
  | one hc => cases hc with
    | p hd => exact .one (.p hd)

theorem pureV_agg {cs : List Cell} (hc : ∀ c ∈ cs, ∃ d, c = .p d) : pureV (.agg cs) := fun _ _ _ _ _ _ h => by
  cases h with
  | agg V hl hv =>
    refine .agg V hl (fun i c u h1 h2 => ?_)
    obtain ⟨d, rfl⟩ := hc c (List.mem_of_getElem? h1)
    cases hv i _ u h1 h2 with
    | p hd => exact .p hd

/-- a result in which nil stands for a row has an own row of no cells -/
theorem ACalls.virt {P : Program} {f : FuncId} {args : List AV} {h : Heap} {b : Nat} {R R' : AV → Heap → Prop} {A B : List AV} {d : PD} (c : ACalls P f args h b 1 R)
    (k : ∀ r h', R r h' → R' r h' ∨ (h' = h ∧ r = .tup (A ++ .agg [.p d, .p (.v (.slice none 0 0))] :: B) ∧ R' (.tup (A ++ .agg [.p d, .win b 0 0 0 0] :: B)) (Am.upd h b ⟨0, []⟩)))
    (hA : ∀ a ∈ A, pureV a) (hB : ∀ a ∈ B, pureV a) : ACalls P f args h b 1 R' := by
  intro ι w vs hb hh ha
  refine (c ι w vs hb hh ha).mono fun e w' ⟨v, r, h', ι', he, hR, hp, hv⟩ => ?_
  rcases k r h' hR with h1 | ⟨rfl, rfl, h1⟩
  · exact ⟨v, r, h', ι', he, h1, hp, hv⟩
  have hlw : lowH b h' = h' := lowH_eq (fun _ _ => rfl) hb
  have H0 : HeapOK ι' h' b w' := by
    have := hp.heap.low (b := b) (fun id _ blk e c hc => hh.lowCells id blk e c hc)
    rwa [hlw] at this
  have hbb : h' b = none := hb b (Nat.le_refl _)
  have hold : ∀ i b', Am.upd h' b ⟨0, []⟩ i = some b' → b'.cells ≠ [] → i ≠ b ∧ h' i = some b' := by
    intro i b' e ne
    by_cases hi : i = b
    · subst hi; rw [upd_same] at e; injection e with e; subst e; exact absurd rfl ne
    · rw [upd_ne _ _ _ _ hi] at e; exact ⟨hi, e⟩
  have M : Moves ι' h' b w' ι' (Am.upd h' b ⟨0, []⟩) (b + 1) w' := by
    refine ⟨by omega, fun b' hs _ i blk e ne => hs i blk (hold i blk e ne).2 ne, fun _ _ _ => rfl, fun i hi b' e => ?_⟩
    rw [upd_ne _ _ _ _ (by omega)] at e
    exact ⟨b', e, Nat.le_refl _, fun _ => rfl⟩
  refine ⟨v, _, Am.upd h' b ⟨0, []⟩, ι', he, h1, ⟨fun i hi b' e => ?_, fun i hi b' e ne => hp.fresh i hi b' (hold i b' e ne).2 ne, fun i hi => ?_, ⟨fun i b' e ne => ?_, fun i j bi bj hi hj ni nj => H0.inj i j bi bj (hold i bi hi ni).2 (hold j bj hj nj).2 ni nj⟩, hp.keeps⟩, ?_⟩
  · rw [upd_ne _ _ _ _ (by omega)] at e; exact hp.outer i hi b' e
  · rw [upd_ne _ _ _ _ (by omega)]; exact hp.bound i hi
  · obtain ⟨c, ty, g1, g2, g3⟩ := H0.blk i b' (hold i b' e ne).2 ne
    exact ⟨c, ty, g1, g2, fun j d u hd hu => (g3 j d u hd hu).move M⟩
  · cases hv with
    | tup V hl hv =>
      refine .tup V (by rw [hl]; simp) (fun i c u h2 h3 => ?_)
      have hlen : (A ++ AV.agg [.p d, .win b 0 0 0 0] :: B).length = (A ++ AV.agg [.p d, .p (.v (.slice none 0 0))] :: B).length := by simp
      by_cases hi : i = A.length
      · subst hi
        have e1 : (A ++ AV.agg [.p d, .win b 0 0 0 0] :: B)[A.length]? = some (.agg [.p d, .win b 0 0 0 0]) := by simp
        have e2 : (A ++ AV.agg [.p d, .p (.v (.slice none 0 0))] :: B)[A.length]? = some (.agg [.p d, .p (.v (.slice none 0 0))]) := by simp
        rw [e1] at h2
        injection h2 with h2
        subst h2
        cases hv _ _ u e2 h3 with
        | agg W hl2 hv2 =>
          refine .agg W hl2 (fun j c x g1 g2 => ?_)
          match j with
          | 0 =>
            simp only [List.getElem?_cons_zero, Option.some.injEq] at g1
            subst g1
            cases hv2 0 _ x rfl g2 with
            | p hd => exact (RCell.p hd).move M
          | 1 =>
            simp only [List.getElem?_cons_succ, List.getElem?_cons_zero, Option.some.injEq] at g1
            subst g1
            have hx : x = .slice none 0 0 := rav_v_inv (.one (hv2 1 _ x rfl g2))
            subst hx
            exact .win (by omega) (fun blk e => by rw [upd_same] at e; injection e with e; subst e; exact Nat.le_refl _) (fun _ _ _ => ⟨Nat.le_refl _, .inr ⟨rfl, rfl, rfl⟩⟩)
          | j + 2 => simp at g1
      · have e1 : (A ++ AV.agg [.p d, .win b 0 0 0 0] :: B)[i]? = (A ++ AV.agg [.p d, .p (.v (.slice none 0 0))] :: B)[i]? := by
          rcases Nat.lt_or_ge i A.length with hl | hl
          · rw [List.getElem?_append_left hl, List.getElem?_append_left hl]
          · rw [List.getElem?_append_right hl, List.getElem?_append_right hl]
            obtain ⟨m, hm⟩ : ∃ m, i - A.length = m + 1 := ⟨i - A.length - 1, by omega⟩
            rw [hm]; simp
        have hm : c ∈ A ∨ c ∈ B := by
          rcases Nat.lt_or_ge i A.length with hl | hl
          · rw [List.getElem?_append_left hl] at h2; exact .inl (List.mem_of_getElem? h2)
          · rw [List.getElem?_append_right hl] at h2
            obtain ⟨m, hm⟩ : ∃ m, i - A.length = m + 1 := ⟨i - A.length - 1, by omega⟩
            rw [hm] at h2; exact .inr (List.mem_of_getElem? h2)
        have hp2 : pureV c := hm.elim (hA c) (hB c)
        rw [e1] at h2
        exact (hp2 _ _ _ b _ _ (hv i c u h2 h3)).move M

end Am
end Go.Proofs.YtengjcdilnikhaaDoor

namespace Go.Proofs.YtengjcdilnikhaaDoor
set_option linter.unusedSimpArgs false
set_option linter.unusedVariables false
set_option linter.unnecessarySimpa false
open Go Am
namespace Am

/-- for whom an operation waits, as a number's bits -/
def maskOf (acc : List Nat) (es : List Edge) : Nat := es.foldl (fun m e => if Region.binds .any e = true then (m ||| 2 ^ e.on) ||| acc.getD e.on 0 else m) 0
def masks : List Oper → List Nat → List Nat
  | [], acc => acc
  | o :: os, acc => masks os (acc ++ [maskOf acc o.after.toList])

def drawF (S : List Tmp) (ops : Array Oper) (ms : List Nat) : Nat → List Oper → Bool
  | _, [] => true
  | i, o :: os => (o.after.toList.all fun e => !Region.binds .any e || decide (e.on < i)) && ((List.range i).all fun j => match ops[j]? with
      | some x => (ms.getD i 0).testBit j || free2 S ops x o
      | none => true) && drawF S ops ms (i + 1) os

theorem waits_mono {ops : Array Oper} : ∀ {f f' i j : Nat}, f ≤ f' → waits ops f i j = true → waits ops f' i j = true
  | 0, _, _, _, _, h => by cases h
  | f + 1, 0, _, _, hf, _ => by omega
  | f + 1, f' + 1, i, j, hf, h => by
    unfold waits at h ⊢
    cases hi : ops[i]? with
    | none => rw [hi] at h; cases h
    | some o =>
      rw [hi] at h
      simp only at h ⊢
      obtain ⟨e, he, hb⟩ := Array.any_eq_true'.1 h
      refine Array.any_eq_true'.2 ⟨e, he, ?_⟩
      simp only [Bool.and_eq_true, Bool.or_eq_true] at hb ⊢
      exact ⟨hb.1, hb.2.imp id (waits_mono (Nat.le_of_succ_le_succ hf))⟩

theorem maskOf_bit (acc : List Nat) (j : Nat) : ∀ (es : List Edge) (m : Nat), (es.foldl (fun m e => if Region.binds .any e = true then (m ||| 2 ^ e.on) ||| acc.getD e.on 0 else m) m).testBit j = true →
    m.testBit j = true ∨ ∃ e ∈ es, Region.binds .any e = true ∧ (e.on = j ∨ (acc.getD e.on 0).testBit j = true)
  | [], m, h => .inl h
  | e :: es, m, h => by
    rw [List.foldl_cons] at h
    rcases maskOf_bit acc j es _ h with h1 | ⟨e', he, h2⟩
    · by_cases hb : Region.binds .any e = true
      · rw [if_pos hb, Nat.testBit_or, Nat.testBit_or, Bool.or_eq_true, Bool.or_eq_true] at h1
        rcases h1 with (h1 | h1) | h1
        · exact .inl h1
        · refine .inr ⟨e, by simp, hb, .inl ?_⟩
          rw [Nat.testBit_two_pow] at h1
          simpa using h1
        · exact .inr ⟨e, by simp, hb, .inr h1⟩
      · rw [if_neg hb] at h1; exact .inl h1
    · exact .inr ⟨e', by simp [he], h2⟩

/-- the masks of the first ones say who waits -/
theorem masks_ok (ops : Array Oper) : ∀ (os done : List Oper) (acc : List Nat), ops.toList = done ++ os → acc.length = done.length → (∀ i j, i < acc.length → (acc.getD i 0).testBit j = true → waits ops (i + 1) i j = true) →
    (∀ i o, ops[i]? = some o → ∀ e ∈ o.after, Region.binds .any e = true → e.on < i) → ∀ i j, i < ops.size → ((masks os acc).getD i 0).testBit j = true → waits ops (i + 1) i j = true
  | [], done, acc, h1, h2, h3, _, i, j, hi, h => h3 i j (by
      have : ops.toList.length = done.length := by rw [h1]; simp
      rw [Array.length_toList] at this; omega) h
  | o :: os, done, acc, h1, h2, h3, h4, i, j, hi, h => by
    unfold masks at h
    refine masks_ok ops os (done ++ [o]) _ (by rw [h1]; simp) (by simp [h2]) (fun k q hk hq => ?_) h4 i j hi h
    rw [List.length_append, List.length_singleton] at hk
    by_cases hka : k < acc.length
    · rw [List.getD_eq_getElem?_getD, List.getElem?_append_left hka, ← List.getD_eq_getElem?_getD] at hq
      exact h3 k q hka hq
    · have hke : k = acc.length := by omega
      subst hke
      rw [List.getD_eq_getElem?_getD, List.getElem?_append_right (Nat.le_refl _), Nat.sub_self] at hq
      have hq' : (maskOf acc o.after.toList).testBit q = true := hq
      have ho : ops[acc.length]? = some o := by
        rw [← Array.getElem?_toList, h1, h2]; simp
      rcases maskOf_bit acc q _ _ hq' with h0 | ⟨e, he, hb, h5⟩
      · simp at h0
      · have hlt := h4 _ _ ho e (by simpa using he) hb
        unfold waits
        rw [ho]
        refine Array.any_eq_true'.2 ⟨e, by simpa using he, ?_⟩
        simp only [Bool.and_eq_true, Bool.or_eq_true, beq_iff_eq]
        refine ⟨hb, h5.imp id fun h6 => ?_⟩
        exact waits_mono (by omega) (h3 e.on q hlt h6)

theorem drawF_spec {S : List Tmp} {ops : Array Oper} {ms : List Nat} : ∀ (os done : List Oper), ops.toList = done ++ os → drawF S ops ms done.length os = true →
    ∀ i o, done.length ≤ i → ops[i]? = some o → (∀ e ∈ o.after, Region.binds .any e = true → e.on < i) ∧ ∀ j x, j < i → ops[j]? = some x → (ms.getD i 0).testBit j = true ∨ free2 S ops x o = true
  | [], done, h1, _, i, o, hi, ho => by
    have := (Array.getElem?_eq_some_iff.1 ho).1
    have h2 : ops.toList.length = done.length := by rw [h1]; simp
    rw [Array.length_toList] at h2
    omega
  | o' :: os, done, h1, h, i, o, hi, ho => by
    unfold drawF at h
    simp only [Bool.and_eq_true] at h
    obtain ⟨⟨h2, h3⟩, h4⟩ := h
    by_cases hid : i = done.length
    · subst hid
      have : ops[done.length]? = some o' := by rw [← Array.getElem?_toList, h1]; simp
      rw [ho] at this
      injection this with this
      subst this
      refine ⟨fun e he hb => ?_, fun j x hj hx => ?_⟩
      · have := List.all_eq_true.1 h2 e (by simpa using he)
        rw [hb] at this
        simpa using this
      · have := List.all_eq_true.1 h3 j (List.mem_range.2 hj)
        rw [hx] at this
        simpa [Bool.or_eq_true] using this
    · exact drawF_spec os (done ++ [o']) (by rw [h1]; simp) (by rw [List.length_append]; exact h4) i o (by rw [List.length_append, List.length_singleton]; omega) ho

theorem drawF_ok {S : List Tmp} {ops : Array Oper} (h : drawF S ops (masks ops.toList []) 0 ops.toList = true) : drawB S ops = true := by
  have sp := drawF_spec ops.toList [] (by simp) h
  have h4 : ∀ i o, ops[i]? = some o → ∀ e ∈ o.after, Region.binds .any e = true → e.on < i := fun i o ho => (sp i o (Nat.zero_le _) ho).1
  unfold drawB
  refine List.all_eq_true.2 fun i hi => ?_
  have hi' := List.mem_range.1 hi
  cases ho : ops[i]? with
  | none => rfl
  | some o =>
    simp only [Bool.and_eq_true]
    refine ⟨Array.all_eq_true_iff_forall_mem.2 fun e he => ?_, List.all_eq_true.2 fun j hj => ?_⟩
    · cases hb : Region.binds .any e with
      | false => rfl
      | true => simpa using h4 i o ho e he hb
    · have hj' := List.mem_range.1 hj
      cases hx : ops[j]? with
      | none => rfl
      | some x =>
        simp only [Bool.or_eq_true]
        refine ((sp i o (Nat.zero_le _) ho).2 j x hj' hx).imp (fun hb => ?_) id
        exact waits_mono (by omega) (masks_ok ops ops.toList [] [] (by simp) rfl (fun _ _ hh => by cases hh) h4 i j hi' hb)

end Am
end Go.Proofs.YtengjcdilnikhaaDoor
