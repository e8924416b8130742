/-
  A range over a function: the loop's record, a round; A range over a function: its rounds as the iterator sees them; the last yield of an iterator.
-/
import Derived.Test.YtengjcdilnikhaaDoorAmMore
import Derived.RangeFuncRecord
import Derived.RangeFuncLeaves
import Derived.BigFrameIn
namespace Go.Proofs.YtengjcdilnikhaaDoor.Am
set_option linter.unusedSimpArgs false
set_option linter.unusedVariables false
set_option linter.unnecessarySimpa false
open Go

def noCells (o : Obj) : Prop := ∀ c e q, o ≠ .cells c e q

theorem cell_put {w : World} {l : Nat} {o0 o : Obj} (hl : w.heap[l]? = some o0) (h0 : noCells o0) {A : Addr} {v : Value} (h : w.cell? A = some v) : (w.putObj l o).cell? A = some v := by
  have hne : A.block ≠ l := by
    intro e
    subst e
    unfold World.cell? at h
    rw [hl] at h
    cases o0 with
    | cells c e q => exact h0 c e q rfl
    | _ => simp at h
  rw [← h]
  exact cell_same (World.putObj_heap_other hne)

theorem RPD.put {S : Nat → Prop} {w : World} {l : Nat} {o0 o : Obj} (hl : w.heap[l]? = some o0) (h0 : noCells o0) {d : PD} {v : Value} (h : RPD S w d v) : RPD S (w.putObj l o) d v := by
  induction h with
  | v x => exact .v x
  | @sl sz es a cap U hcap hnil hspot hsz hc hr ih =>
    refine .sl a cap U hcap hnil hspot hsz (fun i e he j d hd => ?_) ih
    obtain ⟨A, hA, hs, hcell⟩ := hc i e he j d hd
    exact ⟨A, hA, hs, cell_put hl h0 hcell⟩
  | slc h ih => exact .slc ih

theorem RCell.put {ι : Nat → Nat} {h : Heap} {bd : Nat} {w : World} {l : Nat} {o0 o : Obj} (hl : w.heap[l]? = some o0) (h0 : noCells o0) {c : Cell} {v : Value} (r : RCell ι h bd w c v) : RCell ι h bd (w.putObj l o) c v := by
  induction r with
  | p hd => exact .p (hd.put hl h0)
  | junk v => exact .junk v
  | ptr hid hver hv => exact .ptr hid hver hv
  | ro A U hs hc => exact .ro A U hs (fun j d hd => let ⟨h1, h2, h3⟩ := hc j d hd; ⟨h1, cell_put hl h0 h2, h3.put hl h0⟩)
  | win hid hver hv => exact .win hid hver hv
  | clo F C hF hC h1 h2 ih1 ih2 => exact .clo F C hF hC ih1 ih2

theorem RAV.put {ι : Nat → Nat} {h : Heap} {bd : Nat} {w : World} {l : Nat} {o0 o : Obj} (hl : w.heap[l]? = some o0) (h0 : noCells o0) {c : AV} {v : Value} (r : RAV ι h bd w c v) : RAV ι h bd (w.putObj l o) c v := by
  induction r with
  | one hc => exact .one (hc.put hl h0)
  | agg V hlen hv => exact .agg V hlen (fun i c u hc hu => (hv i c u hc hu).put hl h0)
  | tup V hlen hv ih => exact .tup V hlen ih

theorem HeapOK.put {ι : Nat → Nat} {h : Heap} {bd : Nat} {w : World} {l : Nat} {o0 : Obj} (o : Obj) (hl : w.heap[l]? = some o0) (h0 : noCells o0) (H : HeapOK ι h bd w) : HeapOK ι h bd (w.putObj l o) := by
  refine ⟨fun id b e ne => ?_, H.inj⟩
  obtain ⟨c, ty, h1, h2, h3⟩ := H.blk id b e ne
  refine ⟨c, ty, ?_, h2, fun j d u hd hu => (h3 j d u hd hu).put hl h0⟩
  rw [World.putObj_heap_other (fun e => ?_)]
  · exact h1
  · rw [e, hl] at h1
    injection h1 with h1
    exact h0 _ _ _ h1

theorem Keeps.put {ι : Nat → Nat} {h : Heap} {w0 w : World} {l : Nat} (o : Obj) (hC : w0.heap.size ≤ l) (K : Keeps ι h w0 w) : Keeps ι h w0 (w.putObj l o) :=
  ⟨by rw [World.putObj_size]; exact K.size, K.os, K.output, fun b hs hb => by rw [World.putObj_heap_other (by omega)]; exact K.old b hs hb⟩

theorem Inv.putObj {C : Ctx} {ι : Nat → Nat} {s : St} {a : Act} {w : World} {l : Nat} {o0 : Obj} (o : Obj) (hl : w.heap[l]? = some o0) (h0 : noCells o0) (hC : C.w.heap.size ≤ l) (I : Inv C ι s a w) : Inv C ι s a (w.putObj l o) :=
  ⟨I.outer, I.fresh, I.bound, I.heap.put o hl h0, fun t => (I.tmps t).put hl h0, I.ntmps, I.defers, I.keeps.put o hC⟩

theorem agree_alloc {S : Nat → Prop} (w : World) (o : Obj) : AgreeOn S w (w.alloc o) := fun b _ hb => by
  show (w.heap.push o)[b]? = w.heap[b]?
  rw [Array.getElem?_push_lt hb, Array.getElem?_eq_getElem hb]

theorem HeapOK.alloc {ι : Nat → Nat} {h : Heap} {bd : Nat} {w : World} (o : Obj) (H : HeapOK ι h bd w) : HeapOK ι h bd (w.alloc o) := by
  refine ⟨fun id b e ne => ?_, H.inj⟩
  obtain ⟨c, ty, h1, h2, h3⟩ := H.blk id b e ne
  refine ⟨c, ty, ?_, h2, fun j d u hd hu => (h3 j d u hd hu).move (Moves.world (agree_alloc w o))⟩
  have := (Array.getElem?_eq_some_iff.1 h1).1
  show (w.heap.push o)[ι id]? = _
  rw [Array.getElem?_push_lt this, ← h1, Array.getElem?_eq_getElem this]

theorem Inv.alloc {C : Ctx} {ι : Nat → Nat} {s : St} {a : Act} {w : World} (o : Obj) (I : Inv C ι s a w) : Inv C ι s a (w.alloc o) := by
  have hsz : (w.alloc o).heap.size = w.heap.size + 1 := World.size_alloc w o
  refine ⟨I.outer, I.fresh, I.bound, I.heap.alloc o, fun t => (I.tmps t).move (Moves.world (agree_alloc w o)), I.ntmps, I.defers, ⟨by have := I.keeps.size; omega, I.keeps.os, I.keeps.output, fun b hs hb => ?_⟩⟩
  rw [← I.keeps.old b hs hb]
  exact agree_alloc (S := fun _ => True) w o b trivial (Nat.lt_of_lt_of_le hb I.keeps.size)

theorem putObj_putObj (w : World) (l : Nat) (x y : Obj) : (w.putObj l x).putObj l y = w.putObj l y := by
  unfold World.putObj
  simp

theorem Inv.start {N b : Nat} {ι : Nat → Nat} {h : Heap} {w : World} {x : Xt} {t : Nat → AV} {tm : Array Value} (hn : ∀ id, b ≤ id → h id = none) (H : HeapOK ι h b w) (hN : tm.size = N) (ht : ∀ i, RAV ι h b w (t i) (tm.getD i undef)) :
    Inv ⟨N, b, ι, h, w, x⟩ ι ⟨t, h, 0⟩ { tmps := tm, defers := x.D } w := by
  refine ⟨fun id _ b' e => ⟨b', e, .refl _ _ _⟩, fun id hid b' e hne => ?_, fun id hid => hn id (by simpa using hid), by simpa using H, fun i => by simpa using ht i, hN, rfl, .refl _ _ _⟩
  have e1 : h id = some b' := e
  rw [hn id hid] at e1; cases e1

theorem stab_rec {ι : Nat → Nat} {h : Heap} {bd : Nat} {w : World} {l : Nat} {o : Obj} (H : HeapOK ι h bd w) (hl : w.heap[l]? = some o) (h0 : noCells o) : stab ι h l := by
  intro id blk e ne he
  obtain ⟨c, ty, h1, _⟩ := H.blk id blk e ne
  rw [he, hl] at h1
  injection h1 with h1
  exact h0 _ _ _ h1

theorem noCells_loop (r : Loop) : noCells (.loop r) := fun _ _ _ e => by cases e

/-- a round of a range over a function, as a call -/
theorem round_of {P : Program} {l f N b : Nat} {r : Loop} {ι : Nat → Nat} {h : Heap} {w : World} {t : Nat → AV} {tm : Array Value} {d p : Tmp} {rid : Nat} {ty : TypeId} {pos : String} {after : Array Edge} {body : Code} {Q3 : Exit → St → Prop}
    (hl : w.heap[l]? = some (.loop r)) (hst : r.state = .ready) (hpe : r.pending = none) (hn : ∀ id, b ≤ id → h id = none) (H : HeapOK ι h b w) (hN : tm.size = N) (ht : ∀ i, RAV ι h b w (t i) (tm.getD i undef)) (hd : d < N)
    (hbody : ∀ w1, HeapOK ι h b w1 → AWP P ⟨N, b, ι, h, w1, ⟨[], some l, fun _ _ => False⟩⟩ body Q3 ⟨updT t d (t p), h, 0⟩) (hQ : ∀ e s, Q3 e s → e = .normal ∨ e = .ret) :
    RoundIn Fence.wide 0 P l f tm (.region rid #[⟨some d, .assign (.tmp p), ty, pos, after, none⟩] false) body w
      (fun e w' => ∃ v s' ι', e = .returned (.bool v) ∧ Q3 (if v = true then .normal else .ret) s' ∧ Post ι h b w s'.n ι' s'.h (w'.putObj l (.loop r)) ∧
        w'.heap[l]? = some (.loop { r with state := if v = true then .ready else .done, pending := if v = true then none else some .ret })) := by
  refine roundIn_of_wpIn trivial ?_
  refine wpIn_region_list (wpListIn_plain rfl (fun K hK => BigFrame.wpIn_assign (.tmp p) rfl (hK _ _ (wpListIn_nil ?_))))
  refine ⟨_, run_beginRound hl hst, ?_⟩
  have hlt : l < w.heap.size := (Array.getElem?_eq_some_iff.1 hl).1
  obtain ⟨w2, hw2⟩ : ∃ w2, w.putObj l (.loop { r with state := .busy }) = w2 := ⟨_, rfl⟩
  have hl2 : w2.heap[l]? = some (.loop { r with state := .busy }) := by rw [← hw2]; exact World.putObj_heap_same hlt
  have H2 : HeapOK ι h b w2 := by rw [← hw2]; exact H.put _ hl (noCells_loop _)
  rw [hw2]
  have hsz : w2.heap.size = w.heap.size := by rw [← hw2]; exact World.putObj_size
  have I0 : Inv ⟨N, b, ι, h, w2, ⟨[], some l, fun _ _ => False⟩⟩ ι ⟨updT t d (t p), h, 0⟩ (Act.put { tmps := tm, defers := [] } (some d) (Act.eval { tmps := tm, defers := [] } (.tmp p))) w2 := by
    have I00 : Inv ⟨N, b, ι, h, w2, ⟨[], some l, fun _ _ => False⟩⟩ ι ⟨t, h, 0⟩ { tmps := tm, defers := [] } w2 :=
      Inv.start hn H2 hN (fun i => by have := (ht i).put (o := .loop { r with state := .busy }) hl (noCells_loop _); rw [hw2] at this; exact this)
    exact Inv.put I00 (show dstOK N (some d) from hd) (I00.tmps p)
  refine wpIn_mono (hbody w2 H2 _ w2 ι I0) ?_
  rintro e a' w' (⟨s', ι', q, I'⟩ | ⟨_, he⟩)
  case inr => exact he.elim
  have hstab := stab_rec H2 hl2 (noCells_loop _)
  have hl' : w'.heap[l]? = some (.loop { r with state := .busy }) := by rw [I'.keeps.old l hstab (by rw [hsz]; exact hlt)]; exact hl2
  have hlt' : l < w'.heap.size := (Array.getElem?_eq_some_iff.1 hl').1
  have hpost : ∀ o : Obj, Post ι h b w s'.n ι' s'.h ((w'.putObj l o).putObj l (.loop r)) := fun o => by
    rw [putObj_putObj]
    have ks := I'.keeps.size
    refine ⟨fun id hid b' e => ?_, fun id hid b' e ne => ?_, I'.bound, I'.heap.put _ hl' (noCells_loop _), ⟨?_, ?_, ?_, fun x hs hx => ?_⟩⟩
    · obtain ⟨b0, e0, g⟩ := I'.outer id hid b' e
      rw [show (⟨N, b, ι, h, w2, ⟨[], some l, fun _ _ => False⟩⟩ : Ctx).w.heap.size = w.heap.size from hsz] at g
      exact ⟨b0, e0, g⟩
    · have := I'.fresh id hid b' e ne
      rw [show (⟨N, b, ι, h, w2, ⟨[], some l, fun _ _ => False⟩⟩ : Ctx).w.heap.size = w.heap.size from hsz] at this
      exact this
    · rw [World.putObj_size]; rw [show (⟨N, b, ι, h, w2, ⟨[], some l, fun _ _ => False⟩⟩ : Ctx).w.heap.size = w.heap.size from hsz] at ks; exact ks
    · have := I'.keeps.os; rw [← hw2] at this; exact this
    · have := I'.keeps.output; rw [← hw2] at this; exact this
    · by_cases hxl : x = l
      · subst hxl; rw [World.putObj_heap_same hlt', hl]
      · rw [World.putObj_heap_other hxl, I'.keeps.old x hs (by rw [hsz]; exact hx)]
        show w2.heap[x]? = _
        rw [← hw2, World.putObj_heap_other hxl]
  rcases hQ e s' q with rfl | rfl
  · exact ⟨_, _, run_endRound none hl', true, s', ι', rfl, q, hpost _, by rw [World.putObj_heap_same hlt']; rfl⟩
  · exact ⟨_, _, run_endRound (some .ret) hl', false, s', ι', rfl, q, hpost _, by rw [World.putObj_heap_same hlt']; rfl⟩

theorem run_yield_op {P : Program} {w : World} {ρ : Operand → Value} {o : Oper} {f : Operand} {xs : Array Operand} {tys : Array TypeId} {l : Nat} {r : Loop} (ho : o.op = .call ⟨.value f, xs, tys⟩) (hf : ρ f = .func (.yield l) #[] #[])
    (hl : w.heap[l]? = some (.loop r)) (hs : xs.size = r.params.size) :
    (execOp ρ o).run P w = .ok (.round l r.fn ((r.params.zip (xs.map ρ)).foldl (fun tmps (t, a) => tmps.setIfInBounds t a) r.tmps) r.assign r.body) w := by
  unfold execOp
  rw [ho]
  have := run_yield (P := P) (args := xs.map ρ) hl (by simpa using hs)
  simp only [resolve, Deferred.ofValue, hf, Sem.run_bind, Sem.run_pure, Result.andThen, invoke]
  rw [← this]
  congr 2
  simp

theorem put_same {a : Act} {d : Tmp} {v : Value} (h : d < a.tmps.size) : (a.put (some d) v).eval (.tmp d) = v := by
  simp [Act.put, Act.eval, h]
theorem put_defers (a : Act) (d : Option Tmp) (v : Value) : (a.put d v).defers = a.defers := by
  cases d <;> rfl
theorem put_size (a : Act) (d : Option Tmp) (v : Value) : (a.put d v).tmps.size = a.tmps.size := by
  cases d <;> simp [Act.put]

theorem run_not {P : Program} {w : World} {ρ : Operand → Value} {o : Oper} {ty : TypeId} {x : Operand} {b : Bool} (ho : o.op = .unOp .not ty x) (hx : ρ x = .bool b) : (execOp ρ o).run P w = .ok (.value (.bool (!b))) w := by
  unfold execOp
  rw [ho]
  simp only [hx, Sem.run_bind, Sem.run_pure, Result.andThen]
  rfl

/-- a round, asked for by the iterator: what becomes of it -/
def Rnd (P : Program) (C : Ctx) (l : Nat) (r0 : Loop) (pp : Tmp) (p : ByteArray) (s : St) (HS : Heap → Prop) (EX : World → Prop) : Prop :=
  ∀ a w ι, Inv C ι s a w → w.heap[l]? = some (.loop r0) ∧ r0.params = #[pp] ∧
    RoundIn Fence.wide 0 P l r0.fn (r0.tmps.setIfInBounds pp (.string p)) r0.assign r0.body w (fun e w' => ∃ v, e = .returned (.bool v) ∧ (v = true → ∃ h' ι', HS h' ∧ Post ι s.h (C.b + s.n) w 0 ι' h' w') ∧ (v = false → EX w'))

theorem yield_wp {P : Program} {C : Ctx} {s : St} {l : Nat} {r0 : Loop} {pp : Tmp} {p : ByteArray} {HS : Heap → Prop} {EX : World → Prop} {o : Oper} {f x : Operand} {tys : Array TypeId} {K : Act → World → Prop} {Q : Exit → Act → World → Prop}
    (hr : C.x.rd = none) (ho : o.op = .call ⟨.value f, #[x], tys⟩) (hf : val s.t f = .one (.p (.v (.func (.yield l) #[] #[])))) (hx : val s.t x = .one (.p (.v (.string p)))) (hR : Rnd P C l r0 pp p s HS EX) (hd : dstOK C.N o.dst)
    {a : Act} {w : World} {ι : Nat → Nat} (I : Inv C ι s a w)
    (hT : ∀ h' ι' a' w', HS h' → Inv C ι' ⟨putT s.t o.dst (.one (.p (.v (.bool true)))), h', s.n⟩ a' w' → K a' w') (hF : ∀ w', EX w' → K (a.put o.dst (.bool false)) w') : o.wpIn C.F 0 P a w K Q := by
  refine ⟨fun f _ => C.F_fn f, ?_⟩
  obtain ⟨h1, h2, h3⟩ := hR a w ι I
  have e1 := val_ok I f
  rw [hf] at e1
  have e2 := val_ok I x
  rw [hx] at e2
  rw [Oper.semAt_eq _ _ _ (by rw [ho]; simp), run_yield_op ho (rav_v_inv e1) h1 (by rw [h2]; rfl)]
  refine ⟨fun hh => (by cases hh), ?_⟩
  rw [Ctx.F_wide hr]
  have e3 : (r0.params.zip (#[x].map a.eval)).foldl (fun tmps (t, a) => tmps.setIfInBounds t a) r0.tmps = r0.tmps.setIfInBounds pp (.string p) := by
    rw [h2, List.map_toArray, List.map_cons, List.map_nil, rav_v_inv e2]
    have : (#[pp].zip #[Value.string p]) = #[(pp, .string p)] := by simp
    rw [this]
    simp
  rw [e3]
  refine h3.mono ?_
  rintro e w' ⟨v, rfl, ht, hfa⟩
  cases v with
  | true =>
    obtain ⟨h', ι', hs, hp⟩ := ht rfl
    exact hT h' ι' _ w' hs (Inv.put (Post.inv I hp) hd (rav_v _))
  | false => exact hF w' (hfa rfl)

/-- the iterator asks for a round, and leaves if it is told so -/
theorem AWP.seqYield {P : Program} {C : Ctx} {Q : Exit → St → Prop} {s : St} {l : Nat} {r0 : Loop} {pp : Tmp} {p : ByteArray} {HS : Heap → Prop} {EX : World → Prop} {rid d1 d2 d3 d4 : Nat} {x1 x2 : Operand} {t1 t2 t3 t4 t5 : TypeId} {p1 p2 p3 p4 : String} {a1 a2 a3 a4 : Array Edge} {tys : Array TypeId}
    (hr : C.x.rd = none) (hD : C.x.D = []) (hd : d1 < C.N ∧ d2 < C.N ∧ d3 < C.N ∧ d4 < C.N) (hne : d1 ≠ d2)
    (h1 : val s.t x1 = .one (.p (.v (.func (.yield l) #[] #[])))) (h2 : val (updT s.t d1 (.one (.p (.v (.func (.yield l) #[] #[]))))) x2 = .one (.p (.v (.string p))))
    (hR : ∀ t, Rnd P C l r0 pp p ⟨t, s.h, s.n⟩ HS EX) (hE : ∀ a' w', a'.defers = [] → EX w' → C.x.E a' w')
    (k : ∀ h', HS h' → Q .normal ⟨updT (updT (updT (updT s.t d1 (.one (.p (.v (.func (.yield l) #[] #[]))))) d2 (.one (.p (.v (.string p))))) d3 (.one (.p (.v (.bool true))))) d4 (.one (.p (.v (.bool false)))), h', s.n⟩) :
    AWP P C (.seq (.region rid #[⟨some d1, .move x1, t1, p1, a1, none⟩, ⟨some d2, .move x2, t2, p2, a2, none⟩, ⟨some d3, .call ⟨.value (.tmp d1), #[.tmp d2], tys⟩, t3, p3, a3, none⟩, ⟨some d4, .unOp .not t5 (.tmp d3), t4, p4, a4, none⟩] false) (.cond (.tmp d4) .ret .skip)) Q s := by
  intro a w ι I
  have b1 := val_ok I x1
  rw [h1] at b1
  have I1 : Inv C ι ⟨putT s.t (some d1) _, s.h, s.n⟩ (a.put (some d1) (a.eval x1)) w := Inv.put I (show dstOK C.N (some d1) from hd.1) b1
  have b2 := val_ok I1 x2
  rw [show val (⟨putT s.t (some d1) (.one (.p (.v (.func (.yield l) #[] #[])))), s.h, s.n⟩ : St).t x2 = .one (.p (.v (.string p))) from h2] at b2
  have I2 := Inv.put I1 (show dstOK C.N (some d2) from hd.2.1) b2
  refine wpIn_seq (wpIn_region_list (wpListIn_plain rfl (fun K hK => BigFrame.wpIn_move x1 rfl (hK _ _ (wpListIn_plain rfl (fun K2 hK2 => BigFrame.wpIn_move x2 rfl (hK2 _ _ (wpListIn_plain rfl (fun K3 hK3 => ?_)))))))))
  have hsz : ((a.put (some d1) (a.eval x1)).put (some d2) ((a.put (some d1) (a.eval x1)).eval x2)).tmps.size = C.N := by rw [put_size, put_size, I.ntmps]
  refine yield_wp (l := l) (r0 := r0) (pp := pp) (p := p) (HS := HS) (EX := EX) hr rfl ?_ ?_ (hR _) (show dstOK C.N (some d3) from hd.2.2.1) I2 (fun h' ι' a' w' hs I3 => hK3 _ _ ?_) (fun w' ex => hK3 _ _ ?_)
  · show updT (updT s.t d1 _) d2 _ d1 = _
    rw [updT_ne _ _ _ _ hne, updT_same]
  · show updT (updT s.t d1 _) d2 _ d2 = _
    rw [updT_same]
  · refine wpListIn_plain rfl (fun K4 hK4 => ⟨fun f _ => C.F_fn f, ?_⟩)
    have e3 : a'.eval (.tmp d3) = .bool true := by
      have := val_ok I3 (.tmp d3)
      rw [show val _ (.tmp d3) = updT _ d3 _ d3 from rfl, updT_same] at this
      exact rav_v_inv this
    rw [Oper.semAt_eq _ _ _ (by simp), run_not rfl e3]
    refine hK4 _ _ (wpListIn_nil ?_)
    have I4 := Inv.put I3 (show dstOK C.N (some d4) from hd.2.2.2) (rav_v (.bool (!true)))
    refine wpIn_cond_false (by
      have := val_ok I4 (.tmp d4)
      rw [show val _ (.tmp d4) = updT _ d4 _ d4 from rfl, updT_same] at this
      exact rav_v_inv this) (wpIn_skip (.inl ⟨_, ι', k h' hs, I4⟩))
  · refine wpListIn_plain rfl (fun K4 hK4 => ⟨fun f _ => C.F_fn f, ?_⟩)
    rw [Oper.semAt_eq _ _ _ (by simp), run_not rfl (put_same (by rw [hsz]; exact hd.2.2.1))]
    refine hK4 _ _ (wpListIn_nil ?_)
    refine wpIn_cond_true (put_same (by rw [put_size, hsz]; exact hd.2.2.2)) (wpIn_ret (.inr ⟨rfl, hE _ _ ?_ ex⟩))
    rw [put_defers, put_defers, put_defers, put_defers, I.defers, hD]

/-- a body that holds a range over a function is left with a mark -/
def EM (P : Program) (fn : Func) (m : Nat) (R : AV → Heap → Prop) (ι : Nat → Nat) (h : Heap) (b : Nat) (w : World) (a' : Act) (w' : World) : Prop :=
  LeavesInM Fence.wide 0 P fn a'.tmps (fun e w'' => ∃ v r h' ι', e = .returned v ∧ R r h' ∧ Post ι h b w m ι' h' w'' ∧ RAV ι' h' (b + m) w'' r v) a'.defers .returning w'

theorem ACalls.enterM {P : Program} {f : FuncId} {fn : Func} {c : Code} {args : List AV} {h : Heap} {b m : Nat} {R : AV → Heap → Prop}
    (hf : P.funcs[f]? = some fn) (hb : fn.body = some c) (hn : args.length ≤ fn.ntmps)
    (hw : ∀ (ι : Nat → Nat) (w : World), (∀ id, b ≤ id → h id = none) → HeapOK ι h b w → AWP P ⟨fn.ntmps, b, ι, h, w, ⟨[], none, EM P fn m R ι h b w⟩⟩ c (bodyQ P ⟨fn.ntmps, b, ι, h, w, ⟨[], none, EM P fn m R ι h b w⟩⟩ fn m R) ⟨argsT args, h, 0⟩) : ACalls P f args h b m R := by
  intro ι w vs hbd hh ha
  refine callsIn_wide.1 (callsIn_of_wp_marks (n := 0) hf hb trivial ?_)
  have I : Inv ⟨fn.ntmps, b, ι, h, w, ⟨[], none, EM P fn m R ι h b w⟩⟩ ι ⟨argsT args, h, 0⟩ { tmps := vs.toArray ++ Array.replicate (fn.ntmps - vs.toArray.size) undef, defers := [] } w := by
    refine ⟨fun id _ b' e => ⟨b', e, .refl _ _ _⟩, fun id hid b' e hne => ?_, fun id hid => hbd id (by simpa using hid), by simpa using hh, fun t => ?_, ?_, rfl, .refl _ _ _⟩
    · have e1 : h id = some b' := e
      rw [hbd id hid] at e1; cases e1
    · show RAV ι h (b + 0) w (argsT args t) _
      obtain ⟨hl, hv⟩ := ha
      rcases Nat.lt_or_ge t args.length with hlt | hge
      · have e1 : args[t]? = some (args[t]) := List.getElem?_eq_getElem hlt
        have e2 : vs[t]? = some (vs[t]'(hl ▸ hlt)) := List.getElem?_eq_getElem (hl ▸ hlt)
        have := hv t _ _ e1 e2
        have e3 : argsT args t = args[t] := by simp [argsT, List.getD, e1]
        have e4 : (vs.toArray ++ Array.replicate (fn.ntmps - vs.toArray.size) undef).getD t undef = vs[t]'(hl ▸ hlt) := by
          simp [Array.getD, hl, hlt]
          omega
        rw [e3, e4]
        exact this
      · have e3 : argsT args t = .one .junk := by simp [argsT, List.getD, List.getElem?_eq_none hge]
        rw [e3]
        exact .one (.junk _)
    · have hl := ha.1
      simp; omega
  refine wpIn_mono (hw ι w hbd hh _ w ι I) ?_
  rintro e a' w' (⟨s', ι', q, I'⟩ | ⟨rfl, he⟩)
  · cases e <;> first | exact q.elim | skip
    all_goals
      obtain ⟨v, r, h', ι2, hr, hR, hp, hv⟩ := q a' w' ι' I'
      show LeavesInM _ _ _ _ _ _ a'.defers _ _
      rw [I'.defers]
      exact ⟨v, hr, v, r, h', ι2, rfl, hR, hp, hv⟩
  · exact he

theorem leave_mark {P : Program} {C : Ctx} {fn : Func} {m : Nat} {R : AV → Heap → Prop} {ι' : Nat → Nat} {t' : Nat → AV} {h' : Heap} {n' D : Nat} {a0 a' : Act} {w5 : World} (I : Inv C ι' ⟨t', h', n'⟩ a0 w5) (htm : a0.tmps = a'.tmps)
    (hdf : a'.defers = [{ target := .collected D, args := #[] }]) (hD : w5.heap[D]? = some (.deferred (some []))) (hC : C.w.heap.size ≤ D) (hE : Ends P C fn m R ⟨t', h', n'⟩) : EM P fn m R C.ι C.h C.b C.w a' w5 := by
  unfold EM
  rw [hdf]
  refine ⟨by simp, .inl ⟨D, _, rfl, run_takeDeferred hD, ?_⟩⟩
  obtain ⟨v, r, h2, ι2, hr, hR, hp, hv⟩ := hE a0 _ ι' (I.putObj (.deferred none) hD (fun _ _ _ e => by cases e) hC)
  rw [htm] at hr
  exact ⟨v, hr, v, r, h2, ι2, rfl, hR, hp, hv⟩

/-- what stands behind a range over a function: what follows it, or the way out -/
def afterR (P : Program) (C : Ctx) (rest : Code) (Q : Exit → St → Prop) : Exit → Act → World → Prop
  | .normal, a, w => rest.wpIn C.F 0 P (PostQ C Q) a w
  | .ret, a, w => PostQ C Q .ret a w
  | _, _, _ => False

/-- what a range over a function asks -/
structure RangeOK (P : Program) (C : Ctx) (fn : Func) (m : Nat) (R : AV → Heap → Prop) (g : Operand) (ps : Array Tmp) (assign body rest : Code) (Hdone Hstop : Heap → Prop) (gf : FuncId) (caps : List Cell) (s : St) : Prop where
  hg : val s.t g = .one (.clo (.func gf) [] caps)
  hb : bodyB P gf = true
  iter : ∀ (fnid D l : Nat) (w2 : World) (ι : Nat → Nat) (a : Act) (vs : List Value), Inv C ι s a w2 → RAVs ι s.h (C.b + s.n) w2 (caps.map .one) vs → w2.heap[l]? = some (.loop ⟨.ready, none, fnid, a.tmps, ps, assign, body, D⟩) →
      CallsIn Fence.wide 0 P gf (#[.func (.yield l) #[] #[]] ++ vs.toArray) w2 (fun e w3 => ∃ v, e = .returned v ∧
        ((∃ h' ι', Hdone h' ∧ Post ι s.h (C.b + s.n) w2 0 ι' h' w3 ∧ w3.heap[l]? = some (.loop ⟨.ready, none, fnid, a.tmps, ps, assign, body, D⟩)) ∨
         (∃ h' ι', Hstop h' ∧ Post ι s.h (C.b + s.n) w2 0 ι' h' (w3.putObj l (.loop ⟨.ready, none, fnid, a.tmps, ps, assign, body, D⟩)) ∧ w3.heap[l]? = some (.loop ⟨.done, some .ret, fnid, a.tmps, ps, assign, body, D⟩))))
  hdone : ∀ (D : Nat) (h' : Heap) (ι' : Nat → Nat) (w4 : World), Hdone h' → (∀ id, C.b + s.n ≤ id → h' id = none) → HeapOK ι' h' (C.b + s.n) w4 →
      AWP P ⟨C.N, C.b + s.n, ι', h', w4, ⟨[{ target := .collected D, args := #[] }], none, fun _ _ => False⟩⟩ rest (fun e s' => e = .ret ∧ Ends P C fn m R ⟨s'.t, s'.h, s.n + s'.n⟩) ⟨s.t, h', 0⟩
  hstop : ∀ h', Hstop h' → Ends P C fn m R ⟨s.t, h', s.n⟩

/-- a range over a function -/
theorem rangeFunc_wp {P : Program} {C : Ctx} {Q : Exit → St → Prop} {s : St} {fn : Func} {m : Nat} {R : AV → Heap → Prop} {g : Operand} {ps : Array Tmp} {assign body rest : Code} {gf : FuncId} {caps : List Cell} {Hdone Hstop : Heap → Prop}
    (hx : C.x = ⟨[], none, EM P fn m R C.ι C.h C.b C.w⟩) (ok : RangeOK P C fn m R g ps assign body rest Hdone Hstop gf caps s) {a : Act} {w : World} {ι : Nat → Nat} (I : Inv C ι s a w) :
    (Code.rangeFunc g ps assign body).wpIn C.F 0 P (afterR P C rest Q) a w := by
  obtain ⟨hg, hb, iter, hdone, hstop⟩ := ok
  have hF : C.F = Fence.wide := Ctx.F_wide (by rw [hx])
  have hdf : a.defers = [] := by rw [I.defers, hx]
  refine wpIn_rangeFunc (fun fnid _ => ?_)
  have hro : C.F.round = none := by rw [hF]; rfl
  rw [hro]
  obtain ⟨w2, hw2⟩ : ∃ w2, (w.alloc (.deferred (some []))).alloc (.loop ⟨.ready, none, fnid, a.tmps, ps, assign, body, w.heap.size⟩) = w2 := ⟨_, rfl⟩
  have hsz1 : (w.alloc (.deferred (some []))).heap.size = w.heap.size + 1 := World.size_alloc _ _
  have hsz2 : w2.heap.size = w.heap.size + 2 := by rw [← hw2, World.size_alloc, hsz1]
  have hl2 : w2.heap[w.heap.size + 1]? = some (.loop ⟨.ready, none, fnid, a.tmps, ps, assign, body, w.heap.size⟩) := by
    rw [← hw2, ← hsz1]; exact World.alloc_heap_new _ _
  have hD2 : w2.heap[w.heap.size]? = some (.deferred (some [])) := by
    rw [← hw2, agree_alloc (S := fun _ => True) _ _ _ trivial (by rw [hsz1]; omega)]; exact World.alloc_heap_new w _
  have I2 : Inv C ι s a w2 := by rw [← hw2]; exact (I.alloc _).alloc _
  have rf := val_ok I2 g
  rw [hg] at rf
  obtain ⟨D, hX, r3⟩ : ∃ D : List Value, a.eval g = .func (.func gf) #[] D.toArray ∧ RAVs ι s.h (C.b + s.n) w2 (caps.map .one) D := by
    revert rf
    generalize a.eval g = X
    intro rf
    cases rf with
    | one hc => cases hc with
      | clo F D hF hD h1 h2 =>
        have : F = [] := List.eq_nil_of_length_eq_zero (by rw [hF]; rfl)
        subst this
        exact ⟨D, rfl, ravs_cells hD h2⟩
  have hcw : C.w.heap.size ≤ w.heap.size := I.keeps.size
  have hres : (resolve a.eval (rangeCall g (w.heap.size + 1)) 0).run P w2 = .ok ⟨.fn (.func gf) D.toArray, #[.func (.yield (w.heap.size + 1)) #[] #[]]⟩ w2 := by
    simp only [resolve, rangeCall, Deferred.ofValue, hX, Sem.run_pure]
    congr 2
    apply Array.ext'
    simp [Act.eval]
  have hinv : (invoke (.fn (.func gf) D.toArray) #[.func (.yield (w.heap.size + 1)) #[] #[]]).run P w2 = .ok (.enter gf (#[.func (.yield (w.heap.size + 1)) #[] #[]] ++ D.toArray)) w2 := by
    simp only [invoke, callFunc_run hb]
  refine ⟨w.heap.size + 1, [{ target := .collected w.heap.size, args := #[] }], w2, _, w2, gf, _, w2, by rw [run_enterLoop_outer, hw2], hres, fun f' _ => C.F_fn f', hinv, fun hh => (by rw [hF] at hh; cases hh), ?_⟩
  rw [hF]
  refine (CallsIn.mono (iter fnid w.heap.size (w.heap.size + 1) w2 ι a D I2 r3 hl2) ?_)
  rintro e w3 ⟨v, rfl, hh⟩
  have hn0 : noCells (.loop ⟨.ready, none, fnid, a.tmps, ps, assign, body, w.heap.size⟩) := noCells_loop _
  have hstabD : stab ι s.h w.heap.size := stab_rec I2.heap hD2 (fun _ _ _ e => by cases e)
  have hne : w.heap.size ≠ w.heap.size + 1 := by omega
  rcases hh with ⟨h', ι', hd, hp, hl3⟩ | ⟨h', ι', hs, hp, hl3⟩
  · refine ⟨_, _, run_endLoop hl3 (by simp), ?_⟩
    have I3 := (Post.inv I2 hp).putObj (.loop { ({ state := .ready, pending := none, fn := fnid, tmps := a.tmps, params := ps, assign := assign, body := body, defers := w.heap.size } : Loop) with state := .exhausted }) hl3 (noCells_loop _) (Nat.le_succ_of_le hcw)
    obtain ⟨w4, hw4⟩ : ∃ w4, w3.putObj (w.heap.size + 1) (.loop { ({ state := .ready, pending := none, fn := fnid, tmps := a.tmps, params := ps, assign := assign, body := body, defers := w.heap.size } : Loop) with state := .exhausted }) = w4 := ⟨_, rfl⟩
    rw [hw4] at I3
    show rest.wpIn C.F 0 P (PostQ C Q) _ _
    rw [hF]
    have hD4 : w4.heap[w.heap.size]? = some (.deferred (some [])) := by
      rw [← hw4, World.putObj_heap_other hne, hp.keeps.old _ hstabD (by rw [hsz2]; omega)]; exact hD2
    have hb4 : ∀ id, C.b + s.n ≤ id → h' id = none := fun id hid => hp.bound id hid
    have H4 : HeapOK ι' h' (C.b + s.n) w4 := I3.heap
    have I4 : Inv ⟨C.N, C.b + s.n, ι', h', w4, ⟨[{ target := .collected w.heap.size, args := #[] }], none, fun _ _ => False⟩⟩ ι' ⟨s.t, h', 0⟩ { tmps := a.tmps, defers := [{ target := .collected w.heap.size, args := #[] }] } w4 :=
      Inv.start hb4 H4 I.ntmps (fun i => I3.tmps i)
    have := hdone w.heap.size h' ι' w4 hd hb4 H4 _ w4 ι' I4
    rw [hw4, hdf]
    refine wpIn_mono this ?_
    rintro e a' w5 (⟨s', ι2, ⟨rfl, hE⟩, I5⟩ | ⟨_, he⟩)
    case inr => exact he.elim
    refine .inr ⟨rfl, ?_⟩
    rw [hx]
    have hp5 : Post ι' h' (C.b + s.n) w4 s'.n ι2 s'.h w5 := ⟨I5.outer, I5.fresh, I5.bound, I5.heap, I5.keeps⟩
    have I6 := Post.inv I3 hp5
    have I7 : Inv C ι2 ⟨s'.t, s'.h, s.n + s'.n⟩ { tmps := a'.tmps, defers := [] } w5 :=
      ⟨I6.outer, I6.fresh, I6.bound, I6.heap, fun i => by have := I5.tmps i; rw [← Nat.add_assoc]; exact this, I5.ntmps, by rw [hx], I6.keeps⟩
    refine leave_mark I7 rfl I5.defers ?_ hcw hE
    rw [I5.keeps.old w.heap.size (stab_rec H4 hD4 (fun _ _ _ e => by cases e)) (Array.getElem?_eq_some_iff.1 hD4).1]
    exact hD4
  · refine ⟨_, _, run_endLoop hl3 (by simp), ?_⟩
    have hlt3 : w.heap.size + 1 < w3.heap.size := (Array.getElem?_eq_some_iff.1 hl3).1
    have I3 := (Post.inv I2 hp).putObj (.loop { ({ state := .done, pending := some .ret, fn := fnid, tmps := a.tmps, params := ps, assign := assign, body := body, defers := w.heap.size } : Loop) with state := .exhausted }) (World.putObj_heap_same hlt3) (noCells_loop _) (Nat.le_succ_of_le hcw)
    rw [putObj_putObj] at I3
    obtain ⟨w4, hw4⟩ : ∃ w4, w3.putObj (w.heap.size + 1) (.loop { ({ state := .done, pending := some .ret, fn := fnid, tmps := a.tmps, params := ps, assign := assign, body := body, defers := w.heap.size } : Loop) with state := .exhausted }) = w4 := ⟨_, rfl⟩
    rw [hw4] at I3
    show Code.wpIn Fence.wide 0 P .ret _ _ _
    rw [hw4, hdf]
    refine wpIn_ret ?_
    show PostQ C Q .ret _ _
    refine .inr ⟨rfl, ?_⟩
    rw [hx]
    have I7 : Inv C ι' ⟨s.t, h', s.n⟩ { tmps := a.tmps, defers := [] } w4 :=
      ⟨I3.outer, I3.fresh, I3.bound, I3.heap, I3.tmps, I.ntmps, by rw [hx], I3.keeps⟩
    refine leave_mark I7 rfl rfl ?_ hcw (hstop h' hs)
    rw [← hw4, World.putObj_heap_other hne]
    have := hp.keeps.old _ hstabD (by rw [hsz2]; omega)
    rw [World.putObj_heap_other hne] at this
    rw [this]; exact hD2

/-- ... behind a code, in a block -/
theorem AWP.rangeBlk {P : Program} {C : Ctx} {Q : Exit → St → Prop} {s : St} {fn : Func} {m : Nat} {R : AV → Heap → Prop} {g : Operand} {ps : Array Tmp} {assign body rest x : Code} {k : Nat} {Hdone Hstop : Heap → Prop} {gf : FuncId} {caps : List Cell}
    (hx : C.x = ⟨[], none, EM P fn m R C.ι C.h C.b C.w⟩) (h : AWP P C x (fun e s' => e = .normal ∧ RangeOK P C fn m R g ps assign body rest Hdone Hstop gf caps s') s) :
    AWP P C (.seq (.seq x (.block k (.rangeFunc g ps assign body))) rest) Q s := by
  intro a w ι I
  refine wpIn_seq (wpIn_seq (wpIn_mono (h a w ι I) ?_))
  rintro e a' w' (⟨s', ι', ⟨rfl, ok⟩, I'⟩ | ⟨rfl, he⟩)
  · refine wpIn_block (wpIn_mono (rangeFunc_wp (Q := Q) hx ok I') ?_)
    intro e a2 w2 q
    cases e <;> first | exact q | exact q.elim
  · exact .inr ⟨rfl, he⟩

/-- the body ends, and all its blocks live on as they are -/
theorem Ends.all {P : Program} {C : Ctx} {fn : Func} {m : Nat} {R : AV → Heap → Prop} {s : St} {r : AV} (hm : s.n = m) (hr : resA P s.h s.t fn.results.toList = some r) (hR : R r s.h) : Ends P C fn m R s := by
  intro a w ι I
  subst hm
  obtain ⟨v, h1, h2⟩ := res_ok (P := P) I hr
  exact ⟨v, r, s.h, ι, h1, hR, ⟨I.outer, I.fresh, I.bound, I.heap, I.keeps⟩, h2⟩

/-- a contract of the kit's, at which nothing that was there turns -/
theorem ACalls.ofBelow {P : Program} {f : FuncId} {args : List AV} {h : Heap} {b : Nat} {r : AV}
    (hc : ∀ ι w vs, HeapOK ι h b w → RAVs ι h b w args vs → Calls P f vs.toArray w fun e w' => ∃ v, e = .returned v ∧ RowKit.Below w.heap.size w w' ∧ RAV ι h b w r v) : ACalls P f args h b 0 (fun r' h' => r' = r ∧ h' = h) := by
  intro ι w vs hb hh ha
  refine (hc ι w vs hh ha).mono ?_
  rintro e w' ⟨v, rfl, hB, hr⟩
  have ag : ∀ S : Nat → Prop, AgreeOn S w w' := fun S x _ hx => hB.block x hx
  have M : Moves ι h b w ι h b w' := Moves.world (ag _)
  refine ⟨v, r, h, ι, rfl, ⟨rfl, rfl⟩, ⟨fun id _ b' e => ⟨b', e, .refl _ _ _⟩, fun id hid b' e => (by rw [hb id hid] at e; cases e), fun id hid => hb id (by omega), ⟨fun id blk e ne => ?_, hh.inj⟩, ⟨hB.size, hB.os, hB.output, ag _⟩⟩, hr.move M⟩
  obtain ⟨c, ty, h1, h2, h3⟩ := hh.blk id blk e ne
  exact ⟨c, ty, (hB.block _ (Array.getElem?_eq_some_iff.1 h1).1).trans h1, h2, fun j d u hd hu => (h3 j d u hd hu).move M⟩

/-- a function is entered, and left by its end or by the way C.x.E tells -/
theorem callsE {P : Program} {f : FuncId} {fn : Func} {c : Code} {args : List AV} {h : Heap} {b : Nat} {E : Act → World → Prop} {RR : Ending → World → Prop} {ι : Nat → Nat} {w : World} {vs : List Value}
    (hf : P.funcs[f]? = some fn) (hb : fn.body = some c) (hn : args.length ≤ fn.ntmps) (hbd : ∀ id, b ≤ id → h id = none) (hh : HeapOK ι h b w) (ha : RAVs ι h b w args vs)
    (hw : AWP P ⟨fn.ntmps, b, ι, h, w, ⟨[], none, E⟩⟩ c (fun e s => (e = .normal ∨ e = .ret) ∧ ∀ a' w' ι', Inv ⟨fn.ntmps, b, ι, h, w, ⟨[], none, E⟩⟩ ι' s a' w' → ∃ v, (results fn a'.tmps).run P w' = .ok v w' ∧ RR (.returned v) w') ⟨argsT args, h, 0⟩)
    (hE : ∀ a' w', E a' w' → a'.defers = [] ∧ ∃ v, (results fn a'.tmps).run P w' = .ok v w' ∧ RR (.returned v) w') : CallsIn Fence.wide 0 P f vs.toArray w RR := by
  refine callsIn_of_wp hf hb trivial ?_
  have I : Inv ⟨fn.ntmps, b, ι, h, w, ⟨[], none, E⟩⟩ ι ⟨argsT args, h, 0⟩ { tmps := vs.toArray ++ Array.replicate (fn.ntmps - vs.toArray.size) undef, defers := [] } w := by
    refine Inv.start hbd hh ?_ (fun t => ?_)
    · have hl := ha.1
      simp; omega
    · obtain ⟨hl, hv⟩ := ha
      rcases Nat.lt_or_ge t args.length with hlt | hge
      · have e1 : args[t]? = some (args[t]) := List.getElem?_eq_getElem hlt
        have e2 : vs[t]? = some (vs[t]'(hl ▸ hlt)) := List.getElem?_eq_getElem (hl ▸ hlt)
        have := hv t _ _ e1 e2
        have e3 : argsT args t = args[t] := by simp [argsT, List.getD, e1]
        have e4 : (vs.toArray ++ Array.replicate (fn.ntmps - vs.toArray.size) undef).getD t undef = vs[t]'(hl ▸ hlt) := by
          simp [Array.getD, hl, hlt]
          omega
        rw [e3, e4]
        exact this
      · have e3 : argsT args t = .one .junk := by simp [argsT, List.getD, List.getElem?_eq_none hge]
        rw [e3]
        exact .one (.junk _)
  refine wpIn_mono (hw _ w ι I) ?_
  rintro e a' w' (⟨s', ι', ⟨he, q⟩, I'⟩ | ⟨rfl, he⟩)
  · have hd : a'.defers = [] := I'.defers
    rcases he with rfl | rfl
    · exact ⟨hd, q a' w' ι' I'⟩
    · exact ⟨hd, q a' w' ι' I'⟩
  · exact hE a' w' he

end Go.Proofs.YtengjcdilnikhaaDoor.Am

namespace Go.Proofs.YtengjcdilnikhaaDoor.Am
set_option linter.unusedSimpArgs false
set_option linter.unusedVariables false
set_option linter.unnecessarySimpa false
open Go

theorem Post.cut {ι ι' : Nat → Nat} {h h' : Heap} {b m : Nat} {w w' : World} (p : Post ι h b w m ι' h' w') (n : Nat) (hn : n ≤ m) : Post ι h b w n ι' (cutH (b + n) h') w' := by
  refine ⟨fun id hid b' e => ?_, fun id hid b' e ne => ?_, fun id hid => ?_, p.heap.cut _, p.keeps⟩
  · obtain ⟨_, b1, hb, rfl⟩ := cutH_some e
    obtain ⟨b0, h0, h1, h2⟩ := p.outer id hid b1 hb
    refine ⟨b0, h0, h1, ?_⟩
    rcases h2 with ⟨h2, h3⟩ | ⟨h2, h3⟩
    · exact .inl ⟨by simp [h2], h3⟩
    · exact .inr ⟨h2, fun hn => h3 (by intro hh; apply hn; simp [hh])⟩
  · obtain ⟨_, b1, hb, rfl⟩ := cutH_some e
    exact p.fresh id hid b1 hb (by intro hh; apply ne; simp [hh])
  · unfold cutH
    rw [if_neg (by omega)]

theorem Post.dummy {ι ι' : Nat → Nat} {h h' : Heap} {b m : Nat} {w w' : World} (p : Post ι h b w m ι' h' w') : Inv ⟨0, b, ι, h, w, x0⟩ ι' ⟨junkT, h', m⟩ { tmps := #[], defers := [] } w' :=
  ⟨p.outer, p.fresh, p.bound, p.heap, fun _ => .one (.junk _), rfl, rfl, p.keeps⟩

theorem Inv.post {C : Ctx} {ι : Nat → Nat} {s : St} {a : Act} {w : World} (I : Inv C ι s a w) : Post C.ι C.h C.b C.w s.n ι s.h w := ⟨I.outer, I.fresh, I.bound, I.heap, I.keeps⟩

theorem Post.trans {ι ι1 ι2 : Nat → Nat} {h h1 h2 : Heap} {b m m2 : Nat} {w w1 w2 : World} (p : Post ι h b w m ι1 h1 w1) (q : Post ι1 h1 (b + m) w1 m2 ι2 h2 w2) : Post ι h b w (m + m2) ι2 h2 w2 :=
  (Post.inv p.dummy q).post

theorem putObj_self {w : World} {l : Nat} {o : Obj} (h : w.heap[l]? = some o) : w.putObj l o = w := by
  unfold World.putObj
  have hlt : l < w.heap.size := (Array.getElem?_eq_some_iff.1 h).1
  have : w.heap.setIfInBounds l o = w.heap := by
    apply Array.ext
    · simp
    · intro i h1 h2
      rw [Array.getElem_setIfInBounds h2]
      split
      · rename_i e
        subst e
        rw [Array.getElem?_eq_getElem hlt] at h
        injection h with h
        exact h.symm
      · rfl
  cases w
  simp only at this ⊢
  rw [this]

/-- a round of the loop, out of its body's walk -/
theorem round_ok {P : Program} {C : Ctx} {s : St} {a : Act} {w2 w1 : World} {ι ι1 : Nat → Nat} {h1 : Heap} {l fnid D : Nat} {pp d : Tmp} {rid : Nat} {ty : TypeId} {pos : String} {after : Array Edge} {body : Code} (x : ByteArray) {G S : Heap → Prop}
    (I : Inv C ι s a w2) (p : Post ι s.h (C.b + s.n) w2 0 ι1 h1 w1)
    (hl : w1.heap[l]? = some (.loop ⟨.ready, none, fnid, a.tmps, #[pp], .region rid #[⟨some d, .assign (.tmp pp), ty, pos, after, none⟩] false, body, D⟩)) (hd : d < C.N) (hpp : pp < C.N)
    (hbody : ∀ w', HeapOK ι1 h1 (C.b + s.n) w' → AWP P ⟨C.N, C.b + s.n, ι1, h1, w', ⟨[], some l, fun _ _ => False⟩⟩ body (fun e s' => (e = .normal ∧ G (cutH (C.b + s.n) s'.h)) ∨ (e = .ret ∧ S (cutH (C.b + s.n) s'.h)))
      ⟨updT (updT s.t pp (.one (.p (.v (.string x))))) d (.one (.p (.v (.string x)))), h1, 0⟩) :
    RoundIn Fence.wide 0 P l fnid (a.tmps.setIfInBounds pp (.string x)) (.region rid #[⟨some d, .assign (.tmp pp), ty, pos, after, none⟩] false) body w1
      (fun e w' => ∃ v h' ι', e = .returned (.bool v) ∧ Post ι1 h1 (C.b + s.n) w1 0 ι' h' (w'.putObj l (.loop ⟨.ready, none, fnid, a.tmps, #[pp], .region rid #[⟨some d, .assign (.tmp pp), ty, pos, after, none⟩] false, body, D⟩)) ∧
        (v = true → G h' ∧ w'.heap[l]? = some (.loop ⟨.ready, none, fnid, a.tmps, #[pp], .region rid #[⟨some d, .assign (.tmp pp), ty, pos, after, none⟩] false, body, D⟩)) ∧
        (v = false → S h' ∧ w'.heap[l]? = some (.loop ⟨.done, some .ret, fnid, a.tmps, #[pp], .region rid #[⟨some d, .assign (.tmp pp), ty, pos, after, none⟩] false, body, D⟩))) := by
  have I1 := Post.inv I p
  have hN : (a.tmps.setIfInBounds pp (.string x)).size = C.N := by simp [I.ntmps]
  have hb : ∀ id, C.b + s.n ≤ id → h1 id = none := fun id hid => p.bound id (by omega)
  have hpt : pp < a.tmps.size := by rw [I.ntmps]; exact hpp
  have ht : ∀ i, RAV ι1 h1 (C.b + s.n) w1 (updT s.t pp (.one (.p (.v (.string x)))) i) ((a.tmps.setIfInBounds pp (.string x)).getD i undef) := by
    intro i
    by_cases e : i = pp
    · subst e
      rw [updT_same]
      have : (a.tmps.setIfInBounds i (.string x)).getD i undef = .string x := by simp [Array.getD, hpt]
      rw [this]; exact rav_v _
    · rw [updT_ne _ _ _ _ e]
      have : (a.tmps.setIfInBounds pp (.string x)).getD i undef = a.tmps.getD i undef := by
        simp only [Array.getD_eq_getD_getElem?, Array.getElem?_setIfInBounds]
        rw [if_neg (fun h => e h.symm)]
      rw [this]; exact I1.tmps i
  have hh : HeapOK ι1 h1 (C.b + s.n) w1 := p.heap
  have hR : RoundIn Fence.wide 0 P l fnid (a.tmps.setIfInBounds pp (.string x)) (.region rid #[⟨some d, .assign (.tmp pp), ty, pos, after, none⟩] false) body w1 _ :=
    round_of (P := P) (f := fnid) (N := C.N) (b := C.b + s.n) (ι := ι1) (h := h1) (t := updT s.t pp (.one (.p (.v (.string x))))) (tm := a.tmps.setIfInBounds pp (.string x)) (d := d) (p := pp) (rid := rid) (ty := ty) (pos := pos) (after := after) (body := body)
      (Q3 := fun e s' => (e = .normal ∧ G (cutH (C.b + s.n) s'.h)) ∨ (e = .ret ∧ S (cutH (C.b + s.n) s'.h)))
      hl rfl rfl hb hh hN ht hd (fun w' hw' => by
        have := hbody w' hw'
        rw [updT_same]
        exact this) (fun e s' q => q.imp (·.1) (·.1))
  refine hR.mono ?_
  rintro e w' ⟨v, s', ι', rfl, q, hp, hrec⟩
  refine ⟨v, cutH (C.b + s.n) s'.h, ι', rfl, hp.cut 0 (Nat.zero_le _), fun hv => ?_, fun hv => ?_⟩
  · subst hv
    refine ⟨?_, hrec⟩
    rcases q with q | q
    · exact q.2
    · cases q.1
  · subst hv
    refine ⟨?_, hrec⟩
    rcases q with q | q
    · cases q.1
    · exact q.2

/-- a round as the iterator asks for it -/
theorem rnd_of {P : Program} {N : Nat} {E : Act → World → Prop} {b : Nat} {ι : Nat → Nat} {h0 : Heap} {w2 : World} {l : Nat} {r r' : Loop} {pp : Tmp} {x : ByteArray} {t : Nat → AV} {h1 : Heap} {G S : Heap → Prop}
    (H : HeapOK ι h0 b w2) (hl : w2.heap[l]? = some (.loop r)) (hpar : r.params = #[pp])
    (hround : ∀ ι1 w1, Post ι h0 b w2 0 ι1 h1 w1 → w1.heap[l]? = some (.loop r) → RoundIn Fence.wide 0 P l r.fn (r.tmps.setIfInBounds pp (.string x)) r.assign r.body w1 (fun e w' => ∃ v h' ι', e = .returned (.bool v) ∧ Post ι1 h1 b w1 0 ι' h' (w'.putObj l (.loop r)) ∧
        (v = true → G h' ∧ w'.heap[l]? = some (.loop r)) ∧ (v = false → S h' ∧ w'.heap[l]? = some (.loop r')))) :
    Rnd P ⟨N, b, ι, h0, w2, ⟨[], none, E⟩⟩ l r pp x ⟨t, h1, 0⟩ G (fun w' => ∃ h' ι', S h' ∧ Post ι h0 b w2 0 ι' h' (w'.putObj l (.loop r)) ∧ w'.heap[l]? = some (.loop r')) := by
  intro a w1 ι1 I
  have hl1 : w1.heap[l]? = some (.loop r) := by
    rw [← hl]
    exact I.keeps.old l (stab_rec H hl (noCells_loop r)) (Array.getElem?_eq_some_iff.1 hl).1
  have p : Post ι h0 b w2 0 ι1 h1 w1 := I.post
  refine ⟨hl1, hpar, (hround ι1 w1 p hl1).mono ?_⟩
  rintro e w' ⟨v, h', ι', rfl, hp, ht, hf⟩
  refine ⟨v, rfl, fun hv => ?_, fun hv => ?_⟩
  · obtain ⟨g, hw⟩ := ht hv
    rw [putObj_self hw] at hp
    exact ⟨h', ι', g, hp⟩
  · obtain ⟨g, hw⟩ := hf hv
    exact ⟨h', ι', g, p.trans hp, hw⟩

/-- the last yield: whatever is replied, the iterator ends -/
theorem yield_last {P : Program} {C : Ctx} {s : St} {l : Nat} {r0 : Loop} {pp : Tmp} {x : ByteArray} {HS : Heap → Prop} {EX : World → Prop} {rid d1 d2 d3 : Nat} {x1 x2 : Operand} {t1 t2 t3 ty : TypeId} {p1 p2 p3 : String} {a1 a2 a3 : Array Edge} {tys : Array TypeId}
    (hr : C.x.rd = none) (hD : C.x.D = []) (hn : s.n = 0) (hd : d1 < C.N ∧ d2 < C.N ∧ d3 < C.N) (hne : d1 ≠ d2)
    (h1 : val s.t x1 = .one (.p (.v (.func (.yield l) #[] #[])))) (h2 : ldA P ty s.h (val (updT s.t d1 (.one (.p (.v (.func (.yield l) #[] #[]))))) x2) = some (.one (.p (.v (.string x)))))
    (hR : ∀ t, Rnd P C l r0 pp x ⟨t, s.h, 0⟩ HS EX) {a : Act} {w : World} {ι : Nat → Nat} (I : Inv C ι s a w) :
    (Code.region rid #[⟨some d1, .move x1, t1, p1, a1, none⟩, ⟨some d2, .load ty x2, t2, p2, a2, none⟩, ⟨some d3, .call ⟨.value (.tmp d1), #[.tmp d2], tys⟩, t3, p3, a3, none⟩] false).wpIn C.F 0 P
      (fun e a' w' => e = .normal ∧ a'.defers = [] ∧ ((∃ h' ι', HS h' ∧ Post C.ι C.h C.b C.w 0 ι' h' w') ∨ EX w')) a w := by
  have b1 := val_ok I x1
  rw [h1] at b1
  have I1 : Inv C ι ⟨putT s.t (some d1) _, s.h, s.n⟩ (a.put (some d1) (a.eval x1)) w := Inv.put I (show dstOK C.N (some d1) from hd.1) b1
  refine wpIn_region_list (wpListIn_plain rfl (fun K hK => BigFrame.wpIn_move x1 rfl (hK _ _ (wpListIn_plain rfl (fun K2 hK2 => ?_)))))
  refine Oper.wp_in (fun c e => by cases e) (fun a w h => h) (aop_ok (o := ⟨some d2, .load ty x2, t2, p2, a2, none⟩) (E := fun _ _ => False) (K := fun v h' n' => v = .one (.p (.v (.string x))) ∧ h' = s.h ∧ n' = s.n) ?_ _ w ι I1 K2 _ (fun _ _ _ _ _ h => h.elim) ?_)
  · show optK (sop P _ s.h _) _
    have : sop P (putT s.t (some d1) (.one (.p (.v (.func (.yield l) #[] #[]))))) s.h ⟨some d2, .load ty x2, t2, p2, a2, none⟩ = some (.one (.p (.v (.string x)))) := h2
    rw [this]
    exact ⟨rfl, rfl, rfl⟩
  · rintro v av h' n' ι' w' ⟨rfl, rfl, rfl⟩ I2 rv
    refine hK2 _ _ (wpListIn_plain rfl (fun K3 hK3 => ?_))
    have I3 := Inv.put I2 (show dstOK C.N (some d2) from hd.2.1) rv
    have hsn : s.n = 0 := hn
    refine yield_wp (l := l) (r0 := r0) (pp := pp) (p := x) (HS := HS) (EX := EX) hr rfl ?_ ?_ (by rw [hsn]; exact hR _) (show dstOK C.N (some d3) from hd.2.2) I3 (fun h'' ι'' a' w'' hs I4 => hK3 _ _ ?_) (fun w'' ex => hK3 _ _ ?_)
    · show updT (updT s.t d1 _) d2 _ d1 = _
      rw [updT_ne _ _ _ _ hne, updT_same]
    · show updT (updT s.t d1 _) d2 _ d2 = _
      rw [updT_same]
    · refine wpListIn_nil ⟨rfl, ?_, .inl ⟨h'', ι'', hs, ?_⟩⟩
      · rw [I4.defers, hD]
      · have := I4.post
        rw [show (⟨_, h'', s.n⟩ : St).n = s.n from rfl, hsn] at this
        exact this
    · refine wpListIn_nil ⟨rfl, ?_, .inr ex⟩
      rw [put_defers, I3.defers, hD]

theorem Inv.args {N b : Nat} {ι : Nat → Nat} {h : Heap} {w : World} {x : Xt} {args : List AV} {vs : List Value} (hn : args.length ≤ N) (hbd : ∀ id, b ≤ id → h id = none) (hh : HeapOK ι h b w) (ha : RAVs ι h b w args vs) :
    Inv ⟨N, b, ι, h, w, x⟩ ι ⟨argsT args, h, 0⟩ { tmps := vs.toArray ++ Array.replicate (N - vs.toArray.size) undef, defers := x.D } w := by
  refine Inv.start hbd hh ?_ (fun t => ?_)
  · have hl := ha.1
    simp; omega
  · obtain ⟨hl, hv⟩ := ha
    rcases Nat.lt_or_ge t args.length with hlt | hge
    · have e1 : args[t]? = some (args[t]) := List.getElem?_eq_getElem hlt
      have e2 : vs[t]? = some (vs[t]'(hl ▸ hlt)) := List.getElem?_eq_getElem (hl ▸ hlt)
      have := hv t _ _ e1 e2
      have e3 : argsT args t = args[t] := by simp [argsT, List.getD, e1]
      have e4 : (vs.toArray ++ Array.replicate (N - vs.toArray.size) undef).getD t undef = vs[t]'(hl ▸ hlt) := by
        simp [Array.getD, hl, hlt]
        omega
      rw [e3, e4]
      exact this
    · have e3 : argsT args t = .one .junk := by simp [argsT, List.getD, List.getElem?_eq_none hge]
      rw [e3]
      exact .one (.junk _)

/-- a loop with a measure of its own, in which nothing is laid -/
theorem AWP.loopK {P : Program} {C : Ctx} {Q : Exit → St → Prop} {s : St} {c : Code} (n : Nat) (I : Nat → St → Prop) (m : Nat) (hn : s.n = n) (h0 : I m s)
    (round : ∀ m s, I m s → s.n = n → AWP P C c (thn (fun s' => s'.n = n ∧ ∃ m', m' < m ∧ I m' s') Q) s) : AWP P C (.loop c) Q s := by
  intro a w ι hI b k cs hro hb hr
  have key : ∀ m s a w ι, I m s → s.n = n → Inv C ι s a w →
      ∃ e a' w', PostQ C Q e a' w' ∧ ArrivesIn (Machine.fenced P C.F) P (lone (b.atR a (.code c :: .inLoop c :: k)) cs w) b k cs e a' w' := by
    intro m
    induction m using Nat.strongRecOn with
    | _ m ih =>
      intro s a w ι hs hsn hinv
      obtain ⟨e, a₁, w₁, hq, harr⟩ := round m s hs hsn a w ι hinv b (.inLoop c :: k) cs hro hb hr
      rcases hq with ⟨s₁, ι₁, hq, hinv₁⟩ | ⟨rfl, he⟩
      · cases e with
        | normal =>
          obtain ⟨hle, m', hlt, hI₁⟩ := hq
          obtain ⟨e₂, a₂, w₂, hq₂, harr₂⟩ := ih m' hlt s₁ a₁ w₁ ι₁ hI₁ hle hinv₁
          exact ⟨e₂, a₂, w₂, hq₂, .of_steps (StepsIn.trans harr (.one (fenced_calm hb hr rfl) stepR_inLoop)) harr₂⟩
        | exit id => exact ⟨_, a₁, w₁, .inl ⟨s₁, ι₁, hq, hinv₁⟩, .pass (x := .inLoop c) rfl (fun _ _ => .inl (by simp)) harr⟩
        | goto l => exact ⟨_, a₁, w₁, .inl ⟨s₁, ι₁, hq, hinv₁⟩, .pass (x := .inLoop c) rfl (fun _ _ => .inl (by simp)) harr⟩
        | ret => exact ⟨_, a₁, w₁, .inl ⟨s₁, ι₁, hq, hinv₁⟩, .pass (x := .inLoop c) rfl (fun _ _ => .inl (by simp)) harr⟩
        | panic ch => exact ⟨_, a₁, w₁, .inl ⟨s₁, ι₁, hq, hinv₁⟩, .pass (x := .inLoop c) rfl (fun _ _ => .inl (by simp)) harr⟩
        | outgrown => exact ⟨_, a₁, w₁, .inl ⟨s₁, ι₁, hq, hinv₁⟩, .pass (x := .inLoop c) rfl (fun _ _ => .inl (by simp)) harr⟩
      · exact ⟨_, a₁, w₁, .inr ⟨rfl, he⟩, .pass (x := .inLoop c) rfl (fun _ _ => .inl (by simp)) harr⟩
  obtain ⟨e, a', w', hq, harr⟩ := key _ s a w ι h0 hn hI
  exact ⟨e, a', w', hq, .of_steps (.one (fenced_calm hb hr rfl) stepR_loop) harr⟩

theorem bne_tt : (true != true) = false := rfl
theorem bne_tf : (true != false) = true := rfl
theorem bne_ft : (false != true) = true := rfl
theorem bne_ff : (false != false) = false := rfl
theorem beq_tt : (true == true) = true := rfl
theorem beq_tf : (true == false) = false := rfl
theorem beq_ft : (false == true) = false := rfl
theorem beq_ff : (false == false) = true := rfl
theorem dec_10 : decide ((1 : Int) = 0) = false := rfl
attribute [go_sem] bne_tt bne_tf bne_ft bne_ff beq_tt beq_tf beq_ft beq_ff dec_10

end Go.Proofs.YtengjcdilnikhaaDoor.Am
