/-
  Results with an own row: what becomes of them as a body ends, and read-only.
-/
import Derived.Test.YtengjcdilnikhaaDoorSlBase
namespace Go.Proofs.YtengjcdilnikhaaDoor
set_option linter.unusedSimpArgs false
set_option linter.unusedVariables false
set_option linter.unnecessarySimpa false
open Go Am

theorem renV_tup2 {h : Heap} {b : Nat} {L : List (Nat × List Cell)} {x y x' y' : AV} (h1 : renV h b L x x') (h2 : renV h b L y y') : renV h b L (.tup [x, y]) (.tup [x', y']) := by
  refine .tup rfl (fun i c d hc hd => ?_)
  match i with
  | 0 => simp at hc hd; subst hc; subst hd; exact h1
  | 1 => simp at hc hd; subst hc; subst hd; exact h2
  | i + 2 => simp at hc

theorem renV_tup3 {h : Heap} {b : Nat} {L : List (Nat × List Cell)} {x y z x' y' z' : AV} (h1 : renV h b L x x') (h2 : renV h b L y y') (h3 : renV h b L z z') : renV h b L (.tup [x, y, z]) (.tup [x', y', z']) := by
  refine .tup rfl (fun i c d hc hd => ?_)
  match i with
  | 0 => simp at hc hd; subst hc; subst hd; exact h1
  | 1 => simp at hc hd; subst hc; subst hd; exact h2
  | 2 => simp at hc hd; subst hc; subst hd; exact h3
  | i + 3 => simp at hc

theorem renV_agg2 {h : Heap} {b : Nat} {L : List (Nat × List Cell)} {x y x' y' : Cell} (h1 : renC h b L x x') (h2 : renC h b L y y') : renV h b L (.agg [x, y]) (.agg [x', y']) := by
  refine .agg rfl (fun i c d hc hd => ?_)
  match i with
  | 0 => simp at hc hd; subst hc; subst hd; exact h1
  | 1 => simp at hc hd; subst hc; subst hd; exact h2
  | i + 2 => simp at hc

theorem renC_p {h : Heap} {b : Nat} {L : List (Nat × List Cell)} (d : PD) : renC h b L (.p d) (.p d) := .inl ⟨rfl, rfl⟩
theorem renC_win0 {h : Heap} {b id : Nat} {cs : List Cell} {ver off len cap : Nat} : renC h b [(id, cs)] (.win id ver off len cap) (.win b ver off len cap) :=
  .inr (.inr (.inr (.inl ⟨0, id, cs, ver, off, len, cap, rfl, rfl, rfl⟩)))

/-- numbers below are as they were -/
theorem lowEq_ne {h h0 : Heap} {b : Nat} (e : ∀ id, id < b → h id = h0 id) {i : Nat} (hi : b ≤ i) (blk : Blk) : ∀ id, id < b → upd h i blk id = h0 id := fun id hid => by
  rw [upd_ne _ _ _ _ (by omega)]; exact e id hid

theorem int_c0 : ((0 : Nat) : Int) = 0 := rfl
theorem int_c1 : ((1 : Nat) : Int) = 1 := rfl
theorem int_c2 : ((2 : Nat) : Int) = 2 := rfl
theorem int_t0 : Int.toNat 0 = 0 := rfl
theorem int_t1 : Int.toNat 1 = 1 := rfl
theorem int_t2 : Int.toNat 2 = 2 := rfl

/-- a row with elements appended -/
theorem row_push {sz ver len : Nat} {es fs : List (List PD)} {T : List Cell} (ho : okEs sz es) (hl : len = es.length) (r : Nat) :
    (⟨ver, List.take (len * sz) (es.flatten.map Cell.p ++ T) ++ (fs.flatten.map Cell.p ++ List.replicate r .junk)⟩ : Blk) = rowB ver (es ++ fs) (List.replicate r .junk) := by
  have h1 := okEs_len ho
  have : List.take (len * sz) (es.flatten.map Cell.p ++ T) = es.flatten.map Cell.p := by
    rw [List.take_append_of_le_length (by rw [List.length_map, h1, hl]; exact Nat.le_refl _)]
    exact List.take_of_length_le (by rw [List.length_map, h1, hl]; exact Nat.le_refl _)
  rw [this, rowB_app]

/-- an element's cells -/
theorem row_part {sz i : Nat} {es : List (List PD)} {e : List PD} (T : List Cell) (ho : okEs sz es) (he : es[i]? = some e) : List.take sz (List.drop (i * sz) (es.flatten.map Cell.p ++ T)) = e.map Cell.p := by
  have hi : i < es.length := (List.getElem?_eq_some_iff.1 he).1
  have hel : es[i] = e := (List.getElem?_eq_some_iff.1 he).2
  have h1 := okEs_len ho
  have hm := Nat.mul_le_mul_right sz (show i + 1 ≤ es.length by omega)
  rw [Nat.add_mul] at hm
  have hd : es.flatten.drop (i * sz) = (es.drop i).flatten := flatten_drop sz i es ho.len
  rw [List.drop_append_of_le_length (by rw [List.length_map, h1]; omega), ← List.map_drop, hd, List.drop_eq_getElem_cons hi, List.flatten_cons, hel, List.map_append, List.append_assoc]
  have hle : (e.map Cell.p).length = sz := by rw [List.length_map]; exact ho.len e (List.mem_of_getElem? he)
  rw [List.take_append_of_le_length (by omega), List.take_of_length_le (by omega)]

end Go.Proofs.YtengjcdilnikhaaDoor
namespace Go.Proofs.YtengjcdilnikhaaDoor.Am
set_option linter.unusedSimpArgs false
set_option linter.unusedVariables false
set_option linter.unnecessarySimpa false
open Go

theorem ACalls.arg_eq {P : Program} {f : FuncId} {as1 as2 : List AV} {h : Heap} {b m : Nat} {R : AV → Heap → Prop} (c : ACalls P f as1 h b m R) (e : as2 = as1) : ACalls P f as2 h b m R := by rw [e]; exact c
/-- two ways that meet: what holds there -/
theorem AWP.mid {P : Program} {C : Ctx} {Q : Exit → St → Prop} {s : St} {x y : Code} (M : St → Prop) (h : AWP P C x (thn M Q) s) (k : ∀ s, M s → AWP P C y Q s) : AWP P C (.seq x y) Q s :=
  .seq (h.mono fun e s' q => by cases e <;> first | exact k s' q | exact q)

/-- two ways that meet, what was laid since forgotten -/
theorem AWP.midC {P : Program} {C : Ctx} {Q : Exit → St → Prop} {s : St} {x y : Code} (n : Nat) (M : St → Prop) (h : AWP P C x (thn (fun s => n ≤ s.n ∧ M (s.cut C n)) Q) s) (k : ∀ s, M s → s.n = n → AWP P C y Q s) : AWP P C (.seq x y) Q s :=
  .seq (h.mono fun e s' q => by
    cases e with
    | normal => exact fun a w ι I => k _ q.2 rfl a w ι (I.cut n q.1)
    | _ => exact q)

theorem sub_delH (h : Heap) (m : Nat) : Sub (delH h m) h := fun _ b e => ⟨b, (delH_some e).2, rfl, .inr rfl⟩
theorem Sub.updN {a h : Heap} {k : Nat} {x : Blk} (s : Sub a h) (e : a k = none) : Sub a (Am.upd h k x) := s.upd fun b hb => by rw [e] at hb; cases hb
/-- a drawn region ahead of what follows; M: the blocks that move or that it writes anew -/
theorem AWP.seqRegE (S : List Tmp) (V : List AV) {P : Program} {C : Ctx} {Q : Exit → St → Prop} {s : St} {id : Nat} {ops : Array Oper} {y : Code} (M : List Nat) (hm : P.follows .mixedOrders = true) (hB : drawB S ops = true) (hN : dstsB C.N ops.toList = true)
    (e : ∀ K : FinT, (∀ t h n, AWP P C y Q ⟨t, h, n⟩ → K t h n) → evD P C S V (M.foldl delH s.h) #[] ops.toList s.t s.h s.n K) (hg : (ops.all fun o => o.guard.isNone) = true) (hr : C.x.rd = none := by rfl) : AWP P C (.seq (.region id ops true) y) Q s := by
  have hsub : ∀ (M : List Nat) (h : Heap), Sub (M.foldl delH h) h := by
    intro M
    induction M with
    | nil => intro h; exact .refl h
    | cons m M ih => intro h; exact (ih (delH h m)).trans (sub_delH h m)
  refine .seq (AWP.regionD (V := V) hm hB hN (hsub M s.h) ?_ hr)
  have hsame : ∀ (l : List Oper) (t : Nat → AV) (h : Heap) (n : Nat) (K : FinT), (∀ o ∈ l, o.guard = none) → evD P C S V (M.foldl delH s.h) #[] l t h n K → evD P C S V (M.foldl delH s.h) ops l t h n K := by
    intro l
    induction l with
    | nil => intro t h n K _ e; exact e
    | cons o l ih =>
      intro t h n K hgl e
      have hgo : o.guard = none := hgl o (by simp)
      have hw : ∀ (os : Array Oper) t, wantD os t o = some true := by intro os t; unfold wantD; rw [hgo]
      unfold evD at e ⊢
      split at e
      · rename_i hs
        rw [if_pos hs]
        obtain ⟨v, hv, ok, e⟩ := e
        refine ⟨v, ?_, ?_, ih _ _ _ _ (fun o ho => hgl o (by simp [ho])) e⟩
        · unfold valD at hv ⊢
          rw [hw] at hv ⊢
          exact hv
        · unfold okD at ok ⊢
          rw [hw] at ok ⊢
          exact ok
      · rename_i hs
        rw [if_neg hs]
        unfold sigD at e ⊢
        rw [hw] at e ⊢
        exact aop_mono (fun v h' n' ⟨s, e⟩ => ⟨s, ih _ _ _ _ (fun o ho => hgl o (by simp [ho])) e⟩) e
  have hgl : ∀ o ∈ ops.toList, o.guard = none := by
    intro o ho
    have := Array.all_eq_true_iff_forall_mem.1 hg o (by simpa using ho)
    simpa using this
  exact hsame _ _ _ _ _ hgl (e _ (fun t h n k => k))
/-- a drawn region whose last operation waits for all others; M: the blocks that move ahead of it -/
theorem AWP.regEL (S : List Tmp) (V : List AV) {P : Program} {C : Ctx} {Q : Exit → St → Prop} {s : St} {id : Nat} {ops : Array Oper} (M : List Nat) (N : Nat) (hm : P.follows .mixedOrders = true) (hB : drawB S ops = true) (hLB : lastB ops = true) (hN : dstsB C.N ops.toList = true)
    (hsz : (ops.size == N + 1) = true) (hg : ((ops.toList.drop N).all fun o => o.guard.isNone) = true)
    (e : ∀ K : FinT, (∀ t h n, Q .normal ⟨t, h, n⟩ → K t h n) → evD P C S V (M.foldl delH s.h) ops (ops.toList.take N) s.t s.h s.n (fun t h n => evOps P C (fun _ _ => False) (ops.toList.drop N) [] t h n K)) (hr : C.x.rd = none := by rfl) : AWP P C (.region id ops true) Q s := by
  have hsub : ∀ (M : List Nat) (h : Heap), Sub (M.foldl delH h) h := by
    intro M
    induction M with
    | nil => intro h; exact .refl h
    | cons m M ih => intro h; exact (ih (delH h m)).trans (sub_delH h m)
  have hsz' : ops.size = N + 1 := by simpa using hsz
  refine AWP.regionDL (V := V) hm hB hLB hN (hsub M s.h) ?_ hr
  have hl : ops.toList.dropLast = ops.toList.take N := by rw [List.dropLast_eq_take]; simp [hsz']
  have hd : ops.toList.drop N = [ops[N]'(by omega)] := by
    rw [List.drop_eq_getElem_cons (by simp [hsz']), List.drop_of_length_le (by simp [hsz'])]
    simp
  rw [hl]
  rw [hd] at hg
  have hg' : (ops[N]'(by omega)).guard = none := by simpa using hg
  refine evD_mono _ _ _ _ (fun t h n k => ?_) (e _ (fun t h n k => k))
  rw [hd] at k
  unfold lastK
  have ho : ops[ops.size - 1]? = some (ops[N]'(by omega)) := by
    have hx : ops.size - 1 = N := by omega
    rw [hx]; exact Array.getElem?_eq_getElem (by omega)
  rw [ho]
  simp only [wantD, hg']
  unfold evOps at k
  rw [hg'] at k
  exact k

/-- .. by one word -/
theorem Re {P : Program} {C : Ctx} {Q : Exit → St → Prop} {s : St} {id : Nat} {ops : Array Oper} {y : Code} {e : Prop} {q : FinT → Prop} (M : List Nat) (f : e) (hq : ∀ K : FinT, (∀ t h n, AWP P C y Q ⟨t, h, n⟩ → K t h n) → q K)
    (hm : P.follows .mixedOrders = true := by exact mixed) (hB : drawB [] ops = true := by exact drawF_ok (by kernel_rfl)) (hN : dstsB C.N ops.toList = true := by kernel_rfl)
    (k : e → (∀ K : FinT, (∀ t h n, AWP P C y Q ⟨t, h, n⟩ → K t h n) → q K) → ∀ K : FinT, (∀ t h n, AWP P C y Q ⟨t, h, n⟩ → K t h n) → evD P C [] [] (M.foldl delH s.h) #[] ops.toList s.t s.h s.n K := by intro f hq K hK; simp -implicitDefEqProofs only [go_sem, ↓reduceIte, Nat.reduceEqDiff, Nat.reduceAdd, Nat.reduceLT, Nat.reduceLeDiff, reduceCtorEq, Int.toNat_natCast, f, delH_lit]; exact hq K hK)
    (hg : (ops.all fun o => o.guard.isNone) = true := by kernel_rfl) (hr : C.x.rd = none := by rfl) : AWP P C (.seq (.region id ops true) y) Q s :=
  AWP.seqRegE [] [] M hm hB hN (k f hq) hg hr

/-- a drawn region alone, its last operation behind all others, by one word -/
theorem Rel {P : Program} {C : Ctx} {Q : Exit → St → Prop} {s : St} {id : Nat} {ops : Array Oper} {e : Prop} {q : FinT → Prop} (M : List Nat) (N : Nat) (f : e) (hq : ∀ K : FinT, (∀ t h n, Q .normal ⟨t, h, n⟩ → K t h n) → q K)
    (hm : P.follows .mixedOrders = true := by exact mixed) (hB : drawB [] ops = true := by exact drawF_ok (by kernel_rfl)) (hLB : lastB ops = true := by kernel_rfl) (hN : dstsB C.N ops.toList = true := by kernel_rfl) (hsz : (ops.size == N + 1) = true := by kernel_rfl) (hg : ((ops.toList.drop N).all fun o => o.guard.isNone) = true := by kernel_rfl)
    (k : e → (∀ K : FinT, (∀ t h n, Q .normal ⟨t, h, n⟩ → K t h n) → q K) → ∀ K : FinT, (∀ t h n, Q .normal ⟨t, h, n⟩ → K t h n) → evD P C [] [] (M.foldl delH s.h) ops (ops.toList.take N) s.t s.h s.n (fun t h n => evOps P C (fun _ _ => False) (ops.toList.drop N) [] t h n K) := by intro f hq K hK; simp -implicitDefEqProofs only [go_sem, ↓reduceIte, Nat.reduceEqDiff, Nat.reduceAdd, Nat.reduceLT, Nat.reduceLeDiff, reduceCtorEq, Int.toNat_natCast, f, delH_lit]; exact hq K hK)
    (hr : C.x.rd = none := by rfl) : AWP P C (.region id ops true) Q s :=
  AWP.regEL [] [] M N hm hB hLB hN hsz hg (k f hq) hr

/-- a drawn region alone -/
theorem AWP.rgD (S : List Tmp) (V : List AV) {P : Program} {C : Ctx} {Q : Exit → St → Prop} {s : St} {id : Nat} {ops : Array Oper} (M : List Nat) (hm : P.follows .mixedOrders = true) (hB : drawB S ops = true) (hN : dstsB C.N ops.toList = true)
    (e : ∀ K : FinT, (∀ t h n, Q .normal ⟨t, h, n⟩ → K t h n) → evD P C S V (M.foldl ers s.h) #[] ops.toList s.t s.h s.n K) (hg : (ops.all fun o => o.guard.isNone) = true) (hr : C.x.rd = none := by rfl) : AWP P C (.region id ops true) Q s := by
  have hsub : ∀ (M : List Nat) (h : Heap), Sub (M.foldl ers h) h := by
    intro M
    induction M with
    | nil => intro h; exact .refl h
    | cons m M ih => intro h; exact (ih (ers h m)).trans (sub_ers h m)
  refine AWP.regionD (V := V) hm hB hN (hsub M s.h) ?_ hr
  have hsame : ∀ (l : List Oper) (t : Nat → AV) (h : Heap) (n : Nat) (K : FinT), (∀ o ∈ l, o.guard = none) → evD P C S V (M.foldl ers s.h) #[] l t h n K → evD P C S V (M.foldl ers s.h) ops l t h n K := by
    intro l
    induction l with
    | nil => intro t h n K _ e; exact e
    | cons o l ih =>
      intro t h n K hgl e
      have hgo : o.guard = none := hgl o (by simp)
      have hw : ∀ (os : Array Oper) t, wantD os t o = some true := by intro os t; unfold wantD; rw [hgo]
      unfold evD at e ⊢
      split at e
      · rename_i hs
        rw [if_pos hs]
        obtain ⟨v, hv, ok, e⟩ := e
        refine ⟨v, ?_, ?_, ih _ _ _ _ (fun o ho => hgl o (by simp [ho])) e⟩
        · unfold valD at hv ⊢
          rw [hw] at hv ⊢
          exact hv
        · unfold okD at ok ⊢
          rw [hw] at ok ⊢
          exact ok
      · rename_i hs
        rw [if_neg hs]
        unfold sigD at e ⊢
        rw [hw] at e ⊢
        exact aop_mono (fun v h' n' ⟨s, e⟩ => ⟨s, ih _ _ _ _ (fun o ho => hgl o (by simp [ho])) e⟩) e
  refine hsame _ _ _ _ _ (fun o ho => ?_) (e _ (fun t h n k => k))
  have := Array.all_eq_true_iff_forall_mem.1 hg o (by simpa using ho)
  simpa using this

/-- an own row takes another one's number -/
theorem AWP.rehome {P : Program} {C : Ctx} {Q : Exit → St → Prop} {c : Code} {t : Nat → AV} {h : Heap} {n : Nat} (i j k : Nat) {ver off len cap : Nat} {cells : List Cell} {bk : Blk} (hj0 : C.b ≤ j) (hk0 : C.b ≤ k) (hjk : j ≠ k)
    (e : t i = .one (.win j ver off len cap)) (hj : h j = some ⟨ver, cells⟩) (hk : h k = some bk)
    (K : AWP P C c Q ⟨updT t i (.one (.win k (bk.ver + 1) off len cap)), Am.upd (delH h j) k ⟨bk.ver + 1, cells⟩, n⟩) : AWP P C c Q ⟨t, h, n⟩ := by
  refine .weak (fun a w ι I => ⟨ren ι k (ι j), ?_⟩) K
  have hkb : k < C.b + n := by
    rcases Nat.lt_or_ge k (C.b + n) with h1 | h1
    · exact h1
    · have := I.bound k h1
      rw [show (⟨t, h, n⟩ : St).h k = h k from rfl, hk] at this; cases this
  have hat : ∀ id blk, Am.upd (delH h j) k ⟨bk.ver + 1, cells⟩ id = some blk → (id = k ∧ blk = ⟨bk.ver + 1, cells⟩) ∨ (id ≠ k ∧ id ≠ j ∧ h id = some blk) := by
    intro id blk hb
    by_cases h1 : id = k
    · subst h1; rw [upd_same] at hb; injection hb with hb; exact .inl ⟨rfl, hb.symm⟩
    · rw [upd_ne _ _ _ _ h1] at hb
      obtain ⟨h2, h3⟩ := delH_some hb
      exact .inr ⟨h1, h2, h3⟩
  have M : Moves ι h (C.b + n) w (ren ι k (ι j)) (Am.upd (delH h j) k ⟨bk.ver + 1, cells⟩) (C.b + n) w := by
    refine ⟨Nat.le_refl _, fun b hs _ id blk hb ne => ?_, fun _ _ _ => rfl, fun id _ b' hb => ?_⟩
    · rcases hat id blk hb with ⟨rfl, rfl⟩ | ⟨h1, _, h3⟩
      · rw [ren_same]; exact hs j _ hj ne
      · rw [ren_ne _ _ _ _ h1]; exact hs id blk h3 ne
    · rcases hat id b' hb with ⟨rfl, rfl⟩ | ⟨h1, _, h3⟩
      · exact ⟨bk, hk, Nat.le_succ _, fun hh => by simp at hh⟩
      · exact ⟨b', h3, Nat.le_refl _, fun _ => ren_ne _ _ _ _ h1⟩
  refine ⟨fun id hid b' hb => ?_, fun id hid b' hb ne => ?_, fun id hid => ?_, ⟨fun id b' hb ne => ?_, fun x y bx by' hx hy nx ny hxy => ?_⟩, fun x => ?_, I.ntmps, I.defers, I.keeps⟩
  · rcases hat id b' hb with ⟨rfl, _⟩ | ⟨h1, _, h3⟩
    · omega
    · rw [ren_ne _ _ _ _ h1]; exact I.outer id hid b' h3
  · rcases hat id b' hb with ⟨rfl, rfl⟩ | ⟨h1, _, h3⟩
    · rw [ren_same]; exact I.fresh j hj0 _ hj ne
    · rw [ren_ne _ _ _ _ h1]; exact I.fresh id hid b' h3 ne
  · show Am.upd (delH h j) k ⟨bk.ver + 1, cells⟩ id = none
    have hid' : C.b + n ≤ id := hid
    rw [upd_ne _ _ _ _ (by omega)]
    unfold delH
    split
    · rfl
    · exact I.bound id hid
  · rcases hat id b' hb with ⟨rfl, rfl⟩ | ⟨h1, _, h3⟩
    · obtain ⟨c0, ty, g1, g2, g3⟩ := I.heap.blk j _ hj ne
      rw [ren_same]
      exact ⟨c0, ty, g1, g2, fun z d u hd hu => (g3 z d u hd hu).move M⟩
    · obtain ⟨c0, ty, g1, g2, g3⟩ := I.heap.blk id b' h3 ne
      rw [ren_ne _ _ _ _ h1]
      exact ⟨c0, ty, g1, g2, fun z d u hd hu => (g3 z d u hd hu).move M⟩
  · rcases hat x bx hx with ⟨rfl, rfl⟩ | ⟨h1, h1', h3⟩ <;> rcases hat y by' hy with ⟨rfl, rfl⟩ | ⟨h2, h2', h4⟩
    · rfl
    · rw [ren_same, ren_ne _ _ _ _ h2] at hxy
      exact absurd (I.heap.inj j y _ by' hj h4 nx ny hxy).symm h2'
    · rw [ren_same, ren_ne _ _ _ _ h1] at hxy
      exact absurd (I.heap.inj x j bx _ h3 hj nx ny hxy) h1'
    · rw [ren_ne _ _ _ _ h1, ren_ne _ _ _ _ h2] at hxy
      exact I.heap.inj x y bx by' h3 h4 nx ny hxy
  · show RAV (ren ι k (ι j)) (Am.upd (delH h j) k ⟨bk.ver + 1, cells⟩) (C.b + n) w (updT t i (.one (.win k (bk.ver + 1) off len cap)) x) (a.tmps.getD x undef)
    by_cases hx : x = i
    · subst hx
      rw [updT_same]
      have hr : RAV ι h (C.b + n) w (t x) (a.tmps.getD x undef) := I.tmps x
      rw [e] at hr
      cases hr with
      | one hc =>
        cases hc with
        | win hid hver hv =>
          refine .one (.win hkb (fun blk hb => ?_) (fun blk hb hver' => ?_))
          · rw [upd_same] at hb; injection hb with hb; subst hb; exact Nat.le_refl _
          · rw [ren_same]; exact hv _ hj rfl
    · rw [updT_ne _ _ _ _ hx]; exact (I.tmps x).move M

/-- what was laid since is forgotten -/
theorem AWP.cutN {P : Program} {C : Ctx} {Q : Exit → St → Prop} {c : Code} {s : St} (n : Nat) (hn : n ≤ s.n) (k : AWP P C c Q (s.cut C n)) : AWP P C c Q s :=
  .weak (fun _ _ ι I => ⟨ι, I.cut n hn⟩) k

/-- two ways that meet, and what is made of it ahead of what follows -/
theorem AWP.midR {P : Program} {C : Ctx} {Q : Exit → St → Prop} {s : St} {x y : Code} (M M2 : St → Prop) (h : AWP P C x (thn M Q) s)
    (conv : ∀ (c : Code) (Q : Exit → St → Prop) (s : St), M s → (∀ s', M2 s' → AWP P C c Q s') → AWP P C c Q s) (k : ∀ s, M2 s → AWP P C y Q s) : AWP P C (.seq x y) Q s :=
  .mid M h (fun s hM => conv y Q s hM k)

/-- what holds where a code goes on -/
theorem AWP.thnM {P : Program} {C : Ctx} {Q : Exit → St → Prop} {s : St} {x : Code} {K : St → Prop} (M : St → Prop) (h : AWP P C x (thn M Q) s) (k : ∀ s, M s → K s) : AWP P C x (thn K Q) s :=
  h.mono fun e s' q => by cases e <;> first | exact k s' q | exact q

/-- numbers from the bound on are free -/
theorem AWP.known {P : Program} {C : Ctx} {Q : Exit → St → Prop} {c : Code} {t : Nat → AV} {h : Heap} {n : Nat} (k : (∀ id, C.b + n ≤ id → h id = none) → AWP P C c Q ⟨t, h, n⟩) : AWP P C c Q ⟨t, h, n⟩ :=
  fun a w ι I => k I.bound a w ι I

theorem Sub.same {S H : Heap} {id : Nat} {v : Blk} (s : Sub S H) (e : H id = some v) : Sub S (Am.upd H id v) := by rw [upd_self e]; exact s

end Go.Proofs.YtengjcdilnikhaaDoor.Am
