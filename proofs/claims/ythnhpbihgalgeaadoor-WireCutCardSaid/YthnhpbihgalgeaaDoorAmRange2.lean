/-
  A range over a function: its rounds as the iterator sees them; the last yield of an iterator.
-/
import Derived.Test.YthnhpbihgalgeaaDoorAmRange
namespace Go.Proofs.YthnhpbihgalgeaaDoor.Am
set_option linter.unusedSimpArgs false
set_option linter.unusedVariables false
set_option linter.unnecessarySimpa false
open Go

theorem Post.cut {ι ι' : Nat → Nat} {h h' : Heap} {b m : Nat} {w w' : World} (p : Post ι h b w m ι' h' w') (n : Nat) (hn : n ≤ m) : Post ι h b w n ι' (cutH (b + n) h') w' := by
  refine ⟨fun id hid b' e => ?_, fun id hid b' e ne => ?_, fun id hid => ?_, p.heap.cut _, p.keeps⟩
  · obtain ⟨_, b1, hb, rfl⟩ := cutH_some e
    obtain ⟨b0, h0, h1, h2⟩ := p.outer id hid b1 hb
    refine ⟨b0, h0, h1, ?_⟩
    rcases h2 with ⟨h2, h3⟩ | ⟨h2, h3⟩
    · exact .inl ⟨by simp [h2], h3⟩
    · exact .inr ⟨h2, fun hn => h3 (by intro hh; apply hn; simp [hh])⟩
  · obtain ⟨_, b1, hb, rfl⟩ := cutH_some e
    exact p.fresh id hid b1 hb (by intro hh; apply ne; simp [hh])
  · unfold cutH
    rw [if_neg (by omega)]

theorem Post.dummy {ι ι' : Nat → Nat} {h h' : Heap} {b m : Nat} {w w' : World} (p : Post ι h b w m ι' h' w') : Inv ⟨0, b, ι, h, w, x0⟩ ι' ⟨junkT, h', m⟩ { tmps := #[], defers := [] } w' :=
  ⟨p.outer, p.fresh, p.bound, p.heap, fun _ => .one (.junk _), rfl, rfl, p.keeps⟩

theorem Inv.post {C : Ctx} {ι : Nat → Nat} {s : St} {a : Act} {w : World} (I : Inv C ι s a w) : Post C.ι C.h C.b C.w s.n ι s.h w := ⟨I.outer, I.fresh, I.bound, I.heap, I.keeps⟩

theorem Post.trans {ι ι1 ι2 : Nat → Nat} {h h1 h2 : Heap} {b m m2 : Nat} {w w1 w2 : World} (p : Post ι h b w m ι1 h1 w1) (q : Post ι1 h1 (b + m) w1 m2 ι2 h2 w2) : Post ι h b w (m + m2) ι2 h2 w2 :=
  (Post.inv p.dummy q).post

theorem putObj_self {w : World} {l : Nat} {o : Obj} (h : w.heap[l]? = some o) : w.putObj l o = w := by
  unfold World.putObj
  have hlt : l < w.heap.size := (Array.getElem?_eq_some_iff.1 h).1
  have : w.heap.setIfInBounds l o = w.heap := by
    apply Array.ext
    · simp
    · intro i h1 h2
      rw [Array.getElem_setIfInBounds h2]
      split
      · rename_i e
        subst e
        rw [Array.getElem?_eq_getElem hlt] at h
        injection h with h
        exact h.symm
      · rfl
  cases w
  simp only at this ⊢
  rw [this]

/-- a round of the loop, out of its body's walk -/
theorem round_ok {P : Program} {C : Ctx} {s : St} {a : Act} {w2 w1 : World} {ι ι1 : Nat → Nat} {h1 : Heap} {l fnid D : Nat} {pp d : Tmp} {rid : Nat} {ty : TypeId} {pos : String} {after : Array Edge} {body : Code} (x : ByteArray) {G S : Heap → Prop}
    (I : Inv C ι s a w2) (p : Post ι s.h (C.b + s.n) w2 0 ι1 h1 w1)
    (hl : w1.heap[l]? = some (.loop ⟨.ready, none, fnid, a.tmps, #[pp], .region rid #[⟨some d, .assign (.tmp pp), ty, pos, after, none⟩] false, body, D⟩)) (hd : d < C.N) (hpp : pp < C.N)
    (hbody : ∀ w', HeapOK ι1 h1 (C.b + s.n) w' → AWP P ⟨C.N, C.b + s.n, ι1, h1, w', ⟨[], some l, fun _ _ => False⟩⟩ body (fun e s' => (e = .normal ∧ G (cutH (C.b + s.n) s'.h)) ∨ (e = .ret ∧ S (cutH (C.b + s.n) s'.h)))
      ⟨updT (updT s.t pp (.one (.p (.v (.string x))))) d (.one (.p (.v (.string x)))), h1, 0⟩) :
    RoundIn Fence.wide 0 P l fnid (a.tmps.setIfInBounds pp (.string x)) (.region rid #[⟨some d, .assign (.tmp pp), ty, pos, after, none⟩] false) body w1
      (fun e w' => ∃ v h' ι', e = .returned (.bool v) ∧ Post ι1 h1 (C.b + s.n) w1 0 ι' h' (w'.putObj l (.loop ⟨.ready, none, fnid, a.tmps, #[pp], .region rid #[⟨some d, .assign (.tmp pp), ty, pos, after, none⟩] false, body, D⟩)) ∧
        (v = true → G h' ∧ w'.heap[l]? = some (.loop ⟨.ready, none, fnid, a.tmps, #[pp], .region rid #[⟨some d, .assign (.tmp pp), ty, pos, after, none⟩] false, body, D⟩)) ∧
        (v = false → S h' ∧ w'.heap[l]? = some (.loop ⟨.done, some .ret, fnid, a.tmps, #[pp], .region rid #[⟨some d, .assign (.tmp pp), ty, pos, after, none⟩] false, body, D⟩))) := by
  have I1 := Post.inv I p
  have hN : (a.tmps.setIfInBounds pp (.string x)).size = C.N := by simp [I.ntmps]
  have hb : ∀ id, C.b + s.n ≤ id → h1 id = none := fun id hid => p.bound id (by omega)
  have hpt : pp < a.tmps.size := by rw [I.ntmps]; exact hpp
  have ht : ∀ i, RAV ι1 h1 (C.b + s.n) w1 (updT s.t pp (.one (.p (.v (.string x)))) i) ((a.tmps.setIfInBounds pp (.string x)).getD i undef) := by
    intro i
    by_cases e : i = pp
    · subst e
      rw [updT_same]
      have : (a.tmps.setIfInBounds i (.string x)).getD i undef = .string x := by simp [Array.getD, hpt]
      rw [this]; exact rav_v _
    · rw [updT_ne _ _ _ _ e]
      have : (a.tmps.setIfInBounds pp (.string x)).getD i undef = a.tmps.getD i undef := by
        simp only [Array.getD_eq_getD_getElem?, Array.getElem?_setIfInBounds]
        rw [if_neg (fun h => e h.symm)]
      rw [this]; exact I1.tmps i
  have hh : HeapOK ι1 h1 (C.b + s.n) w1 := p.heap
  have hR : RoundIn Fence.wide 0 P l fnid (a.tmps.setIfInBounds pp (.string x)) (.region rid #[⟨some d, .assign (.tmp pp), ty, pos, after, none⟩] false) body w1 _ :=
    round_of (P := P) (f := fnid) (N := C.N) (b := C.b + s.n) (ι := ι1) (h := h1) (t := updT s.t pp (.one (.p (.v (.string x))))) (tm := a.tmps.setIfInBounds pp (.string x)) (d := d) (p := pp) (rid := rid) (ty := ty) (pos := pos) (after := after) (body := body)
      (Q3 := fun e s' => (e = .normal ∧ G (cutH (C.b + s.n) s'.h)) ∨ (e = .ret ∧ S (cutH (C.b + s.n) s'.h)))
      hl rfl rfl hb hh hN ht hd (fun w' hw' => by
        have := hbody w' hw'
        rw [updT_same]
        exact this) (fun e s' q => q.imp (·.1) (·.1))
  refine hR.mono ?_
  rintro e w' ⟨v, s', ι', rfl, q, hp, hrec⟩
  refine ⟨v, cutH (C.b + s.n) s'.h, ι', rfl, hp.cut 0 (Nat.zero_le _), fun hv => ?_, fun hv => ?_⟩
  · subst hv
    refine ⟨?_, hrec⟩
    rcases q with q | q
    · exact q.2
    · cases q.1
  · subst hv
    refine ⟨?_, hrec⟩
    rcases q with q | q
    · cases q.1
    · exact q.2

/-- a round as the iterator asks for it -/
theorem rnd_of {P : Program} {N : Nat} {E : Act → World → Prop} {b : Nat} {ι : Nat → Nat} {h0 : Heap} {w2 : World} {l : Nat} {r r' : Loop} {pp : Tmp} {x : ByteArray} {t : Nat → AV} {h1 : Heap} {G S : Heap → Prop}
    (H : HeapOK ι h0 b w2) (hl : w2.heap[l]? = some (.loop r)) (hpar : r.params = #[pp])
    (hround : ∀ ι1 w1, Post ι h0 b w2 0 ι1 h1 w1 → w1.heap[l]? = some (.loop r) → RoundIn Fence.wide 0 P l r.fn (r.tmps.setIfInBounds pp (.string x)) r.assign r.body w1 (fun e w' => ∃ v h' ι', e = .returned (.bool v) ∧ Post ι1 h1 b w1 0 ι' h' (w'.putObj l (.loop r)) ∧
        (v = true → G h' ∧ w'.heap[l]? = some (.loop r)) ∧ (v = false → S h' ∧ w'.heap[l]? = some (.loop r')))) :
    Rnd P ⟨N, b, ι, h0, w2, ⟨[], none, E⟩⟩ l r pp x ⟨t, h1, 0⟩ G (fun w' => ∃ h' ι', S h' ∧ Post ι h0 b w2 0 ι' h' (w'.putObj l (.loop r)) ∧ w'.heap[l]? = some (.loop r')) := by
  intro a w1 ι1 I
  have hl1 : w1.heap[l]? = some (.loop r) := by
    rw [← hl]
    exact I.keeps.old l (stab_rec H hl (noCells_loop r)) (Array.getElem?_eq_some_iff.1 hl).1
  have p : Post ι h0 b w2 0 ι1 h1 w1 := I.post
  refine ⟨hl1, hpar, (hround ι1 w1 p hl1).mono ?_⟩
  rintro e w' ⟨v, h', ι', rfl, hp, ht, hf⟩
  refine ⟨v, rfl, fun hv => ?_, fun hv => ?_⟩
  · obtain ⟨g, hw⟩ := ht hv
    rw [putObj_self hw] at hp
    exact ⟨h', ι', g, hp⟩
  · obtain ⟨g, hw⟩ := hf hv
    exact ⟨h', ι', g, p.trans hp, hw⟩

/-- the last yield: whatever is replied, the iterator ends -/
theorem yield_last {P : Program} {C : Ctx} {s : St} {l : Nat} {r0 : Loop} {pp : Tmp} {x : ByteArray} {HS : Heap → Prop} {EX : World → Prop} {rid d1 d2 d3 : Nat} {x1 x2 : Operand} {t1 t2 t3 ty : TypeId} {p1 p2 p3 : String} {a1 a2 a3 : Array Edge} {tys : Array TypeId}
    (hr : C.x.rd = none) (hD : C.x.D = []) (hn : s.n = 0) (hd : d1 < C.N ∧ d2 < C.N ∧ d3 < C.N) (hne : d1 ≠ d2)
    (h1 : val s.t x1 = .one (.p (.v (.func (.yield l) #[] #[])))) (h2 : ldA P ty s.h (val (updT s.t d1 (.one (.p (.v (.func (.yield l) #[] #[]))))) x2) = some (.one (.p (.v (.string x)))))
    (hR : ∀ t, Rnd P C l r0 pp x ⟨t, s.h, 0⟩ HS EX) {a : Act} {w : World} {ι : Nat → Nat} (I : Inv C ι s a w) :
    (Code.region rid #[⟨some d1, .move x1, t1, p1, a1, none⟩, ⟨some d2, .load ty x2, t2, p2, a2, none⟩, ⟨some d3, .call ⟨.value (.tmp d1), #[.tmp d2], tys⟩, t3, p3, a3, none⟩] false).wpIn C.F 0 P
      (fun e a' w' => e = .normal ∧ a'.defers = [] ∧ ((∃ h' ι', HS h' ∧ Post C.ι C.h C.b C.w 0 ι' h' w') ∨ EX w')) a w := by
  have b1 := val_ok I x1
  rw [h1] at b1
  have I1 : Inv C ι ⟨putT s.t (some d1) _, s.h, s.n⟩ (a.put (some d1) (a.eval x1)) w := Inv.put I (show dstOK C.N (some d1) from hd.1) b1
  refine wpIn_region_list (wpListIn_plain rfl (fun K hK => BigFrame.wpIn_move x1 rfl (hK _ _ (wpListIn_plain rfl (fun K2 hK2 => ?_)))))
  refine Oper.wp_in (fun c e => by cases e) (fun a w h => h) (aop_ok (o := ⟨some d2, .load ty x2, t2, p2, a2, none⟩) (E := fun _ _ => False) (K := fun v h' n' => v = .one (.p (.v (.string x))) ∧ h' = s.h ∧ n' = s.n) ?_ _ w ι I1 K2 _ (fun _ _ _ _ _ h => h.elim) ?_)
  · show optK (sop P _ s.h _) _
    have : sop P (putT s.t (some d1) (.one (.p (.v (.func (.yield l) #[] #[]))))) s.h ⟨some d2, .load ty x2, t2, p2, a2, none⟩ = some (.one (.p (.v (.string x)))) := h2
    rw [this]
    exact ⟨rfl, rfl, rfl⟩
  · rintro v av h' n' ι' w' ⟨rfl, rfl, rfl⟩ I2 rv
    refine hK2 _ _ (wpListIn_plain rfl (fun K3 hK3 => ?_))
    have I3 := Inv.put I2 (show dstOK C.N (some d2) from hd.2.1) rv
    have hsn : s.n = 0 := hn
    refine yield_wp (l := l) (r0 := r0) (pp := pp) (p := x) (HS := HS) (EX := EX) hr rfl ?_ ?_ (by rw [hsn]; exact hR _) (show dstOK C.N (some d3) from hd.2.2) I3 (fun h'' ι'' a' w'' hs I4 => hK3 _ _ ?_) (fun w'' ex => hK3 _ _ ?_)
    · show updT (updT s.t d1 _) d2 _ d1 = _
      rw [updT_ne _ _ _ _ hne, updT_same]
    · show updT (updT s.t d1 _) d2 _ d2 = _
      rw [updT_same]
    · refine wpListIn_nil ⟨rfl, ?_, .inl ⟨h'', ι'', hs, ?_⟩⟩
      · rw [I4.defers, hD]
      · have := I4.post
        rw [show (⟨_, h'', s.n⟩ : St).n = s.n from rfl, hsn] at this
        exact this
    · refine wpListIn_nil ⟨rfl, ?_, .inr ex⟩
      rw [put_defers, I3.defers, hD]

theorem Inv.args {N b : Nat} {ι : Nat → Nat} {h : Heap} {w : World} {x : Xt} {args : List AV} {vs : List Value} (hn : args.length ≤ N) (hbd : ∀ id, b ≤ id → h id = none) (hh : HeapOK ι h b w) (ha : RAVs ι h b w args vs) :
    Inv ⟨N, b, ι, h, w, x⟩ ι ⟨argsT args, h, 0⟩ { tmps := vs.toArray ++ Array.replicate (N - vs.toArray.size) undef, defers := x.D } w := by
  refine Inv.start hbd hh ?_ (fun t => ?_)
  · have hl := ha.1
    simp; omega
  · obtain ⟨hl, hv⟩ := ha
    rcases Nat.lt_or_ge t args.length with hlt | hge
    · have e1 : args[t]? = some (args[t]) := List.getElem?_eq_getElem hlt
      have e2 : vs[t]? = some (vs[t]'(hl ▸ hlt)) := List.getElem?_eq_getElem (hl ▸ hlt)
      have := hv t _ _ e1 e2
      have e3 : argsT args t = args[t] := by simp [argsT, List.getD, e1]
      have e4 : (vs.toArray ++ Array.replicate (N - vs.toArray.size) undef).getD t undef = vs[t]'(hl ▸ hlt) := by
        simp [Array.getD, hl, hlt]
        omega
      rw [e3, e4]
      exact this
    · have e3 : argsT args t = .one .junk := by simp [argsT, List.getD, List.getElem?_eq_none hge]
      rw [e3]
      exact .one (.junk _)

/-- a loop with a measure of its own, in which nothing is laid -/
theorem AWP.loopK {P : Program} {C : Ctx} {Q : Exit → St → Prop} {s : St} {c : Code} (n : Nat) (I : Nat → St → Prop) (m : Nat) (hn : s.n = n) (h0 : I m s)
    (round : ∀ m s, I m s → s.n = n → AWP P C c (thn (fun s' => s'.n = n ∧ ∃ m', m' < m ∧ I m' s') Q) s) : AWP P C (.loop c) Q s := by
  intro a w ι hI b k cs hro hb hr
  have key : ∀ m s a w ι, I m s → s.n = n → Inv C ι s a w →
      ∃ e a' w', PostQ C Q e a' w' ∧ ArrivesIn (Machine.fenced P C.F) P (lone (b.atR a (.code c :: .inLoop c :: k)) cs w) b k cs e a' w' := by
    intro m
    induction m using Nat.strongRecOn with
    | _ m ih =>
      intro s a w ι hs hsn hinv
      obtain ⟨e, a₁, w₁, hq, harr⟩ := round m s hs hsn a w ι hinv b (.inLoop c :: k) cs hro hb hr
      rcases hq with ⟨s₁, ι₁, hq, hinv₁⟩ | ⟨rfl, he⟩
      · cases e with
        | normal =>
          obtain ⟨hle, m', hlt, hI₁⟩ := hq
          obtain ⟨e₂, a₂, w₂, hq₂, harr₂⟩ := ih m' hlt s₁ a₁ w₁ ι₁ hI₁ hle hinv₁
          exact ⟨e₂, a₂, w₂, hq₂, .of_steps (StepsIn.trans harr (.one (fenced_calm hb hr rfl) stepR_inLoop)) harr₂⟩
        | exit id => exact ⟨_, a₁, w₁, .inl ⟨s₁, ι₁, hq, hinv₁⟩, .pass (x := .inLoop c) rfl (fun _ _ => .inl (by simp)) harr⟩
        | goto l => exact ⟨_, a₁, w₁, .inl ⟨s₁, ι₁, hq, hinv₁⟩, .pass (x := .inLoop c) rfl (fun _ _ => .inl (by simp)) harr⟩
        | ret => exact ⟨_, a₁, w₁, .inl ⟨s₁, ι₁, hq, hinv₁⟩, .pass (x := .inLoop c) rfl (fun _ _ => .inl (by simp)) harr⟩
        | panic ch => exact ⟨_, a₁, w₁, .inl ⟨s₁, ι₁, hq, hinv₁⟩, .pass (x := .inLoop c) rfl (fun _ _ => .inl (by simp)) harr⟩
        | outgrown => exact ⟨_, a₁, w₁, .inl ⟨s₁, ι₁, hq, hinv₁⟩, .pass (x := .inLoop c) rfl (fun _ _ => .inl (by simp)) harr⟩
      · exact ⟨_, a₁, w₁, .inr ⟨rfl, he⟩, .pass (x := .inLoop c) rfl (fun _ _ => .inl (by simp)) harr⟩
  obtain ⟨e, a', w', hq, harr⟩ := key _ s a w ι h0 hn hI
  exact ⟨e, a', w', hq, .of_steps (.one (fenced_calm hb hr rfl) stepR_loop) harr⟩

theorem bne_tt : (true != true) = false := rfl
theorem bne_tf : (true != false) = true := rfl
theorem bne_ft : (false != true) = true := rfl
theorem bne_ff : (false != false) = false := rfl
theorem beq_tt : (true == true) = true := rfl
theorem beq_tf : (true == false) = false := rfl
theorem beq_ft : (false == true) = false := rfl
theorem beq_ff : (false == false) = true := rfl
theorem dec_10 : decide ((1 : Int) = 0) = false := rfl
attribute [go_sem] bne_tt bne_tf bne_ft bne_ff beq_tt beq_tf beq_ft beq_ff dec_10

end Go.Proofs.YthnhpbihgalgeaaDoor.Am
