/-
  The abstract machine: regions whose order is open.
-/
import Derived.Test.YtengjcdilnikhaaDoorAmApp
import Derived.Orders
namespace Go.Proofs.YtengjcdilnikhaaDoor.Am
set_option linter.unusedSimpArgs false
set_option linter.unusedVariables false
set_option linter.unnecessarySimpa false
open Go

/-- less is known: some blocks, of some no cells -/
def Sub (h h' : Heap) : Prop := ∀ id b, h id = some b → ∃ b', h' id = some b' ∧ b'.ver = b.ver ∧ (b.cells = [] ∨ b' = b)

theorem Sub.refl (h : Heap) : Sub h h := fun _ b e => ⟨b, e, rfl, .inr rfl⟩

theorem liveB_mono {h h' : Heap} (s : Sub h h') {id ver : Nat} (e : liveB h id ver = true) : liveB h' id ver = true := by
  obtain ⟨b, hb, hv⟩ := live_run e
  obtain ⟨b', hb', hv', _⟩ := s id b hb
  unfold liveB
  rw [hb']
  simpa using hv'.trans hv

theorem partA_nil {P : Program} {t : TypeId} {off : Nat} {v : AV} (e : partA P t [] off = some v) (cs : List Cell) : partA P t cs off = some v := by
  unfold partA at e ⊢
  split at e
  · split at e
    · rename_i n hn
      split at e
      · rename_i hle
        have h1 : off = 0 := by simp at hle; omega
        have h2 : n = 0 := by simp at hle; omega
        subst h1; subst h2
        rw [if_pos (by simp)]
        simpa using e
      · cases e
    · cases e
  · simp at e
  · cases e

theorem okC_mono {h h' : Heap} (s : Sub h h') {c : Cell} (e : okC h c = true) : okC h' c = true := by
  cases c with
  | ptr | win => exact liveB_mono s e
  | p d => cases d <;> exact e
  | _ => exact e

theorem ldA_mono {P : Program} {h h' : Heap} (s : Sub h h') {t : TypeId} {x v : AV} (e : ldA P t h x = some v) : ldA P t h' x = some v := by
  unfold ldA at e ⊢
  split at e
  · split at e
    · rename_i b hb
      obtain ⟨b', hb', hv', hc⟩ := s _ b hb
      rw [hb']
      rcases hc with hc | rfl
      · rw [hc] at e
        split at e
        · rename_i hv
          simp only
          rw [if_pos (hv'.trans hv)]
          exact partA_nil e _
        · cases e
      · exact e
    · cases e
  · exact e
  · cases e

theorem fldA_mono {P : Program} {h h' : Heap} (s : Sub h h') {t : TypeId} {x v : AV} {f : Nat} (e : fldA P t h x f = some v) : fldA P t h' x f = some v := by
  unfold fldA at e ⊢
  split at e
  · split at e
    · split at e
      · rename_i hl; rw [if_pos (liveB_mono s hl)]; exact e
      · cases e
    · exact e
    · cases e
  · cases e

theorem idxA_mono {P : Program} {h h' : Heap} (s : Sub h h') {t : TypeId} {x i v : AV} (e : idxA P t h x i = some v) : idxA P t h' x i = some v := by
  unfold idxA at e ⊢
  split at e
  · split at e
    · exact e
    · split at e
      · split at e
        · rename_i hl; rw [if_pos ⟨liveB_mono s hl.1, hl.2⟩]; exact e
        · cases e
      · cases e
    · split at e
      · split at e
        · rename_i hl; rw [if_pos ⟨liveB_mono s hl.1, hl.2⟩]; exact e
        · cases e
      · cases e
    · cases e
  · cases e

theorem slcA_mono {P : Program} {h h' : Heap} (s : Sub h h') {t : TypeId} {x v : AV} {lo hi mx : Option AV} (e : slcA P t h x lo hi mx = some v) : slcA P t h' x lo hi mx = some v := by
  unfold slcA at e ⊢
  split at e
  · exact e
  · exact e
  · split at e
    · split at e
      · rename_i hl; rw [if_pos (liveB_mono s hl)]; exact e
      · cases e
    · cases e
  · split at e
    · split at e
      · rename_i hl; rw [if_pos (liveB_mono s hl)]; exact e
      · cases e
    · cases e
  · cases e

theorem lenA_mono {P : Program} {h h' : Heap} (s : Sub h h') {t : TypeId} {x v : AV} (e : lenA P t h x = some v) : lenA P t h' x = some v := by
  unfold lenA at e ⊢
  split at e
  · exact e
  · exact e
  · exact e
  · split at e
    · rename_i hl; rw [if_pos ⟨liveB_mono s hl.1, hl.2⟩]; exact e
    · cases e
  · cases e

theorem capA_mono {P : Program} {h h' : Heap} (s : Sub h h') {t : TypeId} {x v : AV} (e : capA P t h x = some v) : capA P t h' x = some v := by
  unfold capA at e ⊢
  split at e
  · exact e
  · split at e
    · rename_i hl; rw [if_pos ⟨liveB_mono s hl.1, hl.2⟩]; exact e
    · cases e
  · cases e

theorem fillA_mono {h h' : Heap} (s : Sub h h') {pl : Nat → Option (Nat × Nat)} : ∀ {parts : List (Nat × AV)} {cs ds : List Cell}, fillA h pl cs parts = some ds → fillA h' pl cs parts = some ds
  | [], _, _, e => e
  | (i, v) :: rest, cs, ds, e => by
    unfold fillA at e ⊢
    split at e
    · split at e
      · split at e
        · rename_i hc; rw [if_pos ⟨okC_mono s hc.1, hc.2⟩]; exact fillA_mono s e
        · cases e
      · split at e
        · rename_i hc; rw [if_pos hc]; exact fillA_mono s e
        · cases e
      · cases e
    · cases e

theorem nilV_mono {h h' : Heap} (s : Sub h h') {x v : AV} (e : nilV h x = some v) : nilV h' x = some v := by
  unfold nilV at e ⊢
  split at e
  · split at e
    · rename_i hl; rw [if_pos (liveB_mono s hl)]; exact e
    · cases e
  · exact e
  · exact e
  · cases e

theorem bldA_mono {P : Program} {h h' : Heap} (s : Sub h h') {t : TypeId} {parts : List (Nat × AV)} {v : AV} (e : bldA P h t parts = some v) : bldA P h' t parts = some v := by
  have main : ∀ pl cs, (fillA h pl cs parts).map AV.agg = some v → (fillA h' pl cs parts).map AV.agg = some v := by
    intro pl cs e'
    cases hf : fillA h pl cs parts with
    | none => rw [hf] at e'; simp at e'
    | some ds => rw [hf] at e'; rw [fillA_mono s hf]; exact e'
  unfold bldA at e ⊢
  split at e
  · split at e
    · exact main _ _ e
    · split at e
      · exact main _ _ e
      · cases e
  · cases e

theorem convA_mono {P : Program} {h h' : Heap} (s : Sub h h') {t d : TypeId} {x v : AV} (e : convA P h t d x = some v) : convA P h' t d x = some v := by
  unfold convA at e ⊢
  split at e
  · exact e
  · exact e
  · exact e
  · exact e
  · split at e
    · rename_i b hb
      obtain ⟨b', hb', hv', hc⟩ := s _ b hb
      rw [hb']
      rcases hc with hc | rfl
      · rw [hc] at e
        split at e
        · rename_i hu
          obtain ⟨hv, hu, hle⟩ := hu
          simp only [List.length_nil] at hle
          have h1 : ∀ off len : Nat, off + len ≤ 0 → ((b'.cells.drop off).take len) = ([].drop off).take len := by
            intro off len hl
            have : len = 0 := by omega
            subst this; simp
          simp only
          rw [if_pos ⟨hv'.trans hv, hu, by omega⟩, h1 _ _ hle]
          exact e
        · cases e
      · exact e
    · cases e
  · cases e

theorem sop_mono {P : Program} {h h' : Heap} (s : Sub h h') {t : Nat → AV} {o : Oper} {v : AV} (e : sop P t h o = some v) : sop P t h' o = some v := by
  obtain ⟨dst, op, ty, pos, after, guard⟩ := o
  unfold sop at e ⊢
  simp only at e ⊢
  split at e
  · exact e
  · exact e
  · exact e
  · exact ldA_mono s e
  · exact fldA_mono s e
  · exact e
  · exact idxA_mono s e
  · exact e
  · exact e
  · exact e
  · exact convA_mono s e
  · exact slcA_mono s e
  · exact e
  · exact nilV_mono s e
  · exact e
  · exact e
  · exact bldA_mono s e
  · exact e
  · split at e
    · exact lenA_mono s e
    · cases e
  · split at e
    · exact capA_mono s e
    · cases e
  · exact e
  · exact e
  · cases e

/-! ### what an operation looks at -/
def tmpsOf (l : List Operand) : List Tmp := l.filterMap fun | .tmp t => some t | _ => none

theorem val_congr {t t' : Nat → AV} {l : List Operand} (e : ∀ d ∈ tmpsOf l, t d = t' d) : ∀ x ∈ l, val t x = val t' x := by
  intro x hx
  cases x with
  | tmp i => exact e i (List.mem_filterMap.2 ⟨_, hx, rfl⟩)
  | _ => rfl

theorem map_val_congr {t t' : Nat → AV} {l : List Operand} (e : ∀ x ∈ l, val t x = val t' x) : l.map (val t) = l.map (val t') := List.map_congr_left e

theorem sop_congr {P : Program} {h : Heap} {t t' : Nat → AV} {o : Oper} (e : ∀ x ∈ o.op.operands.toList, val t x = val t' x) : sop P t h o = sop P t' h o := by
  obtain ⟨dst, op, ty, pos, after, guard⟩ := o
  simp only at e
  cases op with
  | call c =>
    obtain ⟨callee, args, tys⟩ := c
    have ea : ∀ x ∈ args.toList, val t x = val t' x := fun x hx => e x (by simp [Op.operands, Call.operands]; exact .inr (by simpa using hx))
    cases callee with
    | builtin b =>
      cases b <;> first | rfl | skip
      all_goals
        unfold sop
        simp only
        rcases hargs : args.toList with _ | ⟨x, _ | ⟨y, _ | ⟨z, r⟩⟩⟩ <;> rcases htys : tys.toList with _ | ⟨u, _ | ⟨u2, r2⟩⟩ <;> first
          | rfl
          | (have h1 := ea x (by rw [hargs]; simp); have h2 := ea y (by rw [hargs]; simp); simp only [h1, h2])
          | (have h1 := ea x (by rw [hargs]; simp); simp only [h1])
    | value f => rfl
    | invoke r m => rfl
  | build bt parts =>
    have : parts.toList.map (valP t) = parts.toList.map (valP t') := by
      refine List.map_congr_left fun p hp => ?_
      obtain ⟨i, x⟩ := p
      have := e x (by simp [Op.operands]; exact ⟨i, by simpa using hp⟩)
      simp [valP, this]
    show bldA P h _ (parts.toList.map (valP t)) = bldA P h _ (parts.toList.map (valP t'))
    rw [this]
  | makeFunc fn first cap =>
    have h1 : first.toList.map (val t) = first.toList.map (val t') := map_val_congr fun x hx => e x (by simp [Op.operands]; exact .inl (by simpa using hx))
    have h2 : cap.toList.map (val t) = cap.toList.map (val t') := map_val_congr fun x hx => e x (by simp [Op.operands]; exact .inr (by simpa using hx))
    unfold sop
    simp only [h1, h2]
  | slice ty x lo hi mx =>
    have hx := e x (by simp [Op.operands])
    have h1 : lo.map (val t) = lo.map (val t') := by cases lo <;> simp; exact e _ (by simp [Op.operands])
    have h2 : hi.map (val t) = hi.map (val t') := by cases hi <;> simp; exact e _ (by simp [Op.operands])
    have h3 : mx.map (val t) = mx.map (val t') := by cases mx <;> simp; exact e _ (by simp [Op.operands])
    unfold sop
    simp only [hx, h1, h2, h3]
  | _ =>
    simp only [Op.operands, List.toList_toArray, List.mem_cons, List.mem_nil_iff, or_false, forall_eq_or_imp, forall_eq] at e
    unfold sop
    first | rfl | (simp only [e])

theorem aop_congr {P : Program} {C : Ctx} {o : Oper} {t t' : Nat → AV} {h : Heap} {n : Nat} {K : KT} (e : ∀ x ∈ o.op.operands.toList, val t x = val t' x) : aop P C o t h n (fun _ _ => False) K = aop P C o t' h n (fun _ _ => False) K := by
  have hs := sop_congr (P := P) (h := h) e
  obtain ⟨dst, op, ty, pos, after, guard⟩ := o
  simp only at e
  cases op with
  | call c =>
    obtain ⟨callee, args, tys⟩ := c
    have ea : args.toList.map (val t) = args.toList.map (val t') := map_val_congr fun x hx => e x (by simp [Op.operands, Call.operands]; exact .inr (by simpa using hx))
    cases callee with
    | builtin b =>
      cases b with
      | append => unfold aop; simp only [ea]
      | copy => unfold aop; simp only [ea]
      | clear => unfold aop; simp only [ea]
      | _ => unfold aop; simp only [hs]
    | value f =>
      have hf := e f (by simp [Op.operands, Call.operands])
      unfold aop
      simp only [ea, hf]
      rfl
    | invoke r m => unfold aop; simp only [hs]
  | buildSlice bt len parts =>
    have : parts.toList.map (valP t) = parts.toList.map (valP t') := by
      refine List.map_congr_left fun p hp => ?_
      obtain ⟨i, x⟩ := p
      have := e x (by simp [Op.operands]; exact ⟨i, by simpa using hp⟩)
      simp [valP, this]
    have h2 : (parts.toList.map fun (i, x) => (i, val t x)) = (parts.toList.map fun (i, x) => (i, val t' x)) := this
    unfold aop
    simp only [h2]
  | move x | assign x | box u x | store u a v | makeSlice u a v =>
    simp only [Op.operands, List.toList_toArray, List.mem_cons, List.mem_nil_iff, or_false, forall_eq_or_imp, forall_eq] at e
    unfold aop
    simp only [e, hs]
  | binOp op u x y z =>
    simp only [Op.operands, List.toList_toArray, List.mem_cons, List.mem_nil_iff, or_false, forall_eq_or_imp, forall_eq] at e
    unfold aop
    simp only [e]
  | alloc u => rfl
  | panic x =>
    simp only [Op.operands, List.toList_toArray, List.mem_cons, List.mem_nil_iff, or_false, forall_eq] at e
    unfold aop
    simp only [e]
  | _ => unfold aop; simp only [hs]

/-! ### a literal's slice that nobody writes -/
def pdOf : List Cell → Option (List PD)
  | [] => some []
  | .p d :: r => (pdOf r).map (d :: ·)
  | _ :: _ => none

def chunk {α : Type} (z : Nat) : Nat → List α → List (List α)
  | 0, _ => []
  | n + 1, l => l.take z :: chunk z n (l.drop z)

def bslP (P : Program) (h : Heap) (ty : TypeId) (len : Nat) (parts : List (Nat × AV)) : Option AV :=
  match slS P ty with
  | some z => (bslA P h ty len parts).bind fun cs => if cs.length = len * z then (pdOf cs).map fun ds => .one (.p (.sl z (chunk z len ds))) else none
  | none => none

def sopX (P : Program) (t : Nat → AV) (h : Heap) (o : Oper) : Option AV :=
  match o.op with
  | .buildSlice ty len parts => bslP P h ty len (parts.toList.map (valP t))
  | _ => sop P t h o

theorem chunk_length {α : Type} (z : Nat) : ∀ (n : Nat) (l : List α), (chunk z n l).length = n
  | 0, _ => rfl
  | n + 1, l => by simp [chunk, chunk_length z n]

theorem chunk_get {α : Type} (z : Nat) : ∀ (n : Nat) (l : List α), l.length = n * z → (∀ e ∈ chunk z n l, e.length = z) ∧ ∀ (i j : Nat) (e : List α) (d : α), (chunk z n l)[i]? = some e → e[j]? = some d → l[i * z + j]? = some d
  | 0, _, _ => ⟨fun e he => by simp [chunk] at he, fun i j e d he => by simp [chunk] at he⟩
  | n + 1, l, hl => by
    rw [Nat.add_mul] at hl
    obtain ⟨h1, h2⟩ := chunk_get z n (l.drop z) (by simp; omega)
    refine ⟨fun e he => ?_, fun i j e d he hd => ?_⟩
    · rcases List.mem_cons.1 he with rfl | he
      · simp; omega
      · exact h1 e he
    · cases i with
      | zero =>
        simp [chunk] at he
        subst he
        rw [List.getElem?_take] at hd
        split at hd
        · simpa using hd
        · cases hd
      | succ i =>
        have := h2 i j e d (by simpa [chunk] using he) hd
        rw [List.getElem?_drop] at this
        rw [← this]
        congr 1
        rw [Nat.add_mul]
        omega

theorem pdOf_get : ∀ {cs : List Cell} {ds : List PD}, pdOf cs = some ds → cs = ds.map .p
  | [], ds, e => by injection e with e; subst e; rfl
  | c :: cs, ds, e => by
    cases c with
    | p d =>
      simp only [pdOf] at e
      cases h : pdOf cs with
      | none => rw [h] at e; simp at e
      | some ds' => rw [h] at e; simp at e; subst e; rw [pdOf_get h]; rfl
    | _ => simp [pdOf] at e

theorem Inv.other {C : Ctx} {ι : Nat → Nat} {s : St} {a : Act} {w : World} (I : Inv C ι s a w) (o : Obj) : Moves ι s.h (C.b + s.n) w ι s.h (C.b + s.n) (w.alloc o) ∧ Inv C ι s a (w.alloc o) := by
  have M : Moves ι s.h (C.b + s.n) w ι s.h (C.b + s.n) (w.alloc o) := .world (fun b _ hb => heap_alloc_old w o b hb)
  refine ⟨M, I.outer, I.fresh, I.bound, ⟨fun id b e ne => ?_, I.heap.inj⟩, fun t => (I.tmps t).move M, I.ntmps, I.defers, ⟨by have := I.keeps.size; simp; omega, I.keeps.os, I.keeps.output, fun b hs hb => ?_⟩⟩
  · obtain ⟨c, ty, h1, h2, h3⟩ := I.heap.blk id b e ne
    exact ⟨c, ty, (heap_alloc_old w o _ (I.heap.lt e ne)).trans h1, h2, fun j d u hd hu => (h3 j d u hd hu).move M⟩
  · rw [heap_alloc_old w o b (by have := I.keeps.size; omega)]
    exact I.keeps.old b hs hb

theorem sopX_ok {P : Program} {C : Ctx} {ι : Nat → Nat} {s : St} {a : Act} {w : World} (I : Inv C ι s a w) {o : Oper} {av : AV} (e : sopX P s.t s.h o = some av) :
    ∃ v w', (execOp a.eval o).run P w = .ok (.value v) w' ∧ Inv C ι s a w' ∧ RAV ι s.h (C.b + s.n) w' av v := by
  obtain ⟨dst, op, ty0, pos, after, guard⟩ := o
  unfold sopX at e
  simp only at e
  split at e
  · rename_i ty len parts
    unfold bslP at e
    split at e
    · rename_i z hz
      cases hb : bslA P s.h ty len (parts.toList.map (valP s.t)) with
      | none => rw [hb] at e; simp at e
      | some cs =>
        rw [hb] at e
        simp only [Option.bind_some] at e
        split at e
        · rename_i hcl
          cases hp : pdOf cs with
          | none => rw [hp] at e; simp at e
          | some ds =>
            rw [hp] at e
            simp only [Option.map_some, Option.some.injEq] at e
            subst e
            have hcs := pdOf_get hp
            have hdl : ds.length = len * z := by rw [← hcl, hcs]; simp
            -- the run, as for an own row
            have hb' : bslA P s.h ty len (parts.toList.map fun (i, x) => (i, val s.t x)) = some cs := hb
            unfold bslA at hb'
            split at hb'
            · rename_i el hel
              split at hb'
              · rename_i z' zs hsz hzz
                split at hb'
                · rename_i hc
                  obtain ⟨hzl, h0, hle⟩ := hc
                  obtain ⟨i, zv, hi, hiz, hzs⟩ := tzero_run hzz
                  obtain ⟨V', h1, h2⟩ := fill_ok _ ((parts.map fun (i, x) => (i, a.eval x)).toList) (by simp) (parts_ok (val_ok I) parts) _ (repl zs len).toArray (by simpa using reps_repl zs len) cs hb'
                  have hrun : (Instr.buildSlice ty len (parts.map fun (i, x) => (i, a.eval x))).run P w = .ok (.slice (some ⟨w.heap.size, 0, none⟩) len len) (w.alloc (.cells V' el)) := by
                    rcases h0 with h0 | rfl
                    case inr =>
                      have h1' : Instr.fill (fun i => some (i * z', z')) #[] (parts.map fun (i, x) => (i, a.eval x)).toList = some V' := h1
                      simp only [Instr.buildSlice, Sem.run_bind, run_underlying (slE_run hel), tsz_run hsz, Result.andThen]
                      rw [if_neg (by omega), if_pos (by omega)]
                      simp only [Sem.run_bind, Result.andThen, Sem.run_pure, Nat.zero_mul, Array.range_zero', Array.map_empty]
                      rw [h1']
                      rfl
                    have hzr : (zeroValue el).run P w = .ok zv w := by simp [zeroValue, typeInfo, hi, hiz]
                    have hzc : zv.cells = zs.toArray := by apply Array.ext'; simpa using hzs
                    have hr := range_repl zs len z' hzl
                    simp only [Instr.buildSlice, Sem.run_bind, run_underlying (slE_run hel), tsz_run hsz, Result.andThen]
                    rw [if_neg (by omega), if_neg (by omega)]
                    simp only [Sem.run_bind, hzr, Result.andThen, Sem.run_pure, hzc]
                    rw [hr, h1]
                    rfl
                  obtain ⟨M, I'⟩ := I.other (.cells V' el)
                  refine ⟨.slice (some ⟨w.heap.size, 0, none⟩) len len, w.alloc (.cells V' el), ?_, I', .one (.p ?_)⟩
                  · show (do pure (.value (← Instr.buildSlice ty len (parts.map fun (i, x) => (i, a.eval x)))) : Sem Next).run P w = _
                    simp only [Sem.run_bind, hrun, Result.andThen, Sem.run_pure]
                  · obtain ⟨c1, c2⟩ := chunk_get z len ds hdl
                    have hlen := chunk_length z len ds
                    have hVl : V'.size = len * z := by have := h2.1; simp at this; rw [this, hcl]
                    have := RPD.sl (S := stab ι s.h) (w := w.alloc (.cells V' el)) (sz := z) (es := chunk z len ds) (some ⟨w.heap.size, 0, none⟩) len (fun i j => V'.getD (i * z + j) undef) (by omega) (fun hn => by cases hn) (fun A hA => by injection hA with hA; subst hA; exact .inr rfl) c1
                      (fun i e he j d hd => by
                        have hg := c2 i j e d he hd
                        have hlt : i * z + j < V'.size := by rw [hVl, ← hdl]; exact (List.getElem?_eq_some_iff.1 hg).1
                        refine ⟨_, rfl, fun id blk e ne => ?_, ?_⟩
                        · exact Nat.ne_of_lt (I.heap.lt e ne)
                        · have : (w.alloc (.cells V' el)).cell? ⟨w.heap.size, 0 + (i * z + j), none⟩ = V'[0 + (i * z + j)]? := World.cell?_alloc_new w V' el _
                          rw [this]
                          simp [Array.getD, hlt])
                      (fun i e he j d hd => by
                        have hg := c2 i j e d he hd
                        have hlt : i * z + j < V'.size := by rw [hVl, ← hdl]; exact (List.getElem?_eq_some_iff.1 hg).1
                        have hcd : cs[i * z + j]? = some (.p d) := by rw [hcs, List.getElem?_map, hg]; rfl
                        have hr := (h2.2 (i * z + j) (.p d) V'[i * z + j] hcd (by rw [Array.getElem?_toList]; exact Array.getElem?_eq_getElem hlt)).move M
                        have e1 : V'.getD (i * z + j) undef = V'[i * z + j] := by simp [Array.getD, hlt]
                        rw [e1]
                        cases hr with
                        | p hd' => exact hd')
                    rw [hlen] at this
                    exact this
                · cases hb'
              · cases hb'
            · cases hb'
        · cases e
    · cases e
  · obtain ⟨v, h1, h2⟩ := sop_ok (P := P) (val_ok I) I.heap e
    exact ⟨v, w, h1, I, h2⟩

theorem bslP_mono {P : Program} {h h' : Heap} (s : Sub h h') {ty : TypeId} {len : Nat} {parts : List (Nat × AV)} {v : AV} (e : bslP P h ty len parts = some v) : bslP P h' ty len parts = some v := by
  unfold bslP at e ⊢
  split at e
  · cases hb : bslA P h ty len parts with
    | none => rw [hb] at e; simp at e
    | some cs =>
      have : bslA P h' ty len parts = some cs := by
        unfold bslA at hb ⊢
        split at hb
        · split at hb
          · split at hb
            · rename_i hc; rw [if_pos hc]; exact fillA_mono s hb
            · cases hb
          · cases hb
        · cases hb
      rw [hb] at e
      rw [this]
      exact e
  · cases e

theorem sopX_mono {P : Program} {h h' : Heap} (s : Sub h h') {t : Nat → AV} {o : Oper} {v : AV} (e : sopX P t h o = some v) : sopX P t h' o = some v := by
  unfold sopX at e ⊢
  split at e
  · exact bslP_mono s e
  · exact sop_mono s e

theorem sopX_congr {P : Program} {h : Heap} {t t' : Nat → AV} {o : Oper} (e : ∀ x ∈ o.op.operands.toList, val t x = val t' x) : sopX P t h o = sopX P t' h o := by
  unfold sopX
  split
  · rename_i ty len parts ho
    rw [ho] at e
    have : parts.toList.map (valP t) = parts.toList.map (valP t') := by
      refine List.map_congr_left fun p hp => ?_
      obtain ⟨i, x⟩ := p
      have := e x (by simp [Op.operands]; exact ⟨i, by simpa using hp⟩)
      simp [valP, this]
    rw [this]
  · exact sop_congr e

/-! ### drawn regions -/
def simpleB : Op → Bool
  | .move _ | .assign _ | .pick .. | .load .. | .fieldAddr .. | .field .. | .indexAddr .. | .index .. | .binOp .. | .unOp .. | .convert .. | .slice .. | .extract .. | .nilCheck _ | .build .. | .makeFunc .. | .buildSlice .. => true
  | .call { callee := .builtin .len, .. } | .call { callee := .builtin .cap, .. } | .call { callee := .builtin .min, .. } | .call { callee := .builtin .max, .. } => true
  | _ => false

/-- calls that are taken for simple: by the slots of their results -/
def inS : List Tmp → Option Tmp → Bool
  | [], _ => false
  | _ :: _, none => false
  | x :: S, some d => if d = x then true else inS S (some d)
def lkS : List Tmp → List AV → Option Tmp → AV
  | x :: S, v :: V, some d => if d = x then v else lkS S V (some d)
  | _, _, _ => .one .junk
def isCallV : Op → Bool
  | .call { callee := .value _, .. } => true
  | _ => false
/-- of the slots in S: a call is taken for simple, any other operation is not -/
def simpO (S : List Tmp) (op : Op) (dst : Option Tmp) : Bool := if inS S dst = true then isCallV op else simpleB op
def simpleP (S : List Tmp) (o : Oper) : Bool := simpO S o.op o.dst

/-- such a call's contract: whatever the heap, it hands back v, and leaves it -/
def PureC (P : Program) (hS : Heap) (t : Nat → AV) (op : Op) (v : AV) : Prop :=
  match op with
  | .call ⟨.value f, xs, _⟩ => match val t f with
    | .one (.clo (.func g) first cap) => bodyB P g = true ∧ ∀ h b, Sub hS h → ACalls P g (first.map .one ++ (xs.toList.map (val t) ++ cap.map .one)) h b 0 (fun r h' => r = v ∧ h' = h)
    | _ => False
  | _ => False

/-- a guard's answer: carried out? (none: nothing is known) -/
def wantD (ops : Array Oper) (t : Nat → AV) (o : Oper) : Option Bool :=
  match o.guard with
  | none => some true
  | some (j, want) => match (ops[j]?).bind (·.dst) with
    | some d => match t d with
      | .one (.p (.v (.bool g))) => some (g == want)
      | .one (.p (.v (.tuple _))) => some false
      | _ => none
    | none => none

/-- a simple operation's value -/
def valD (P : Program) (S : List Tmp) (V : List AV) (hS : Heap) (ops : Array Oper) (t : Nat → AV) (o : Oper) : Option AV :=
  match wantD ops t o with
  | some true => if simpleB o.op = true then sopX P t hS o else some (lkS S V o.dst)
  | some false => some undA
  | none => none

/-- any other operation -/
def sigD (P : Program) (C : Ctx) (hS : Heap) (ops : Array Oper) (o : Oper) (t : Nat → AV) (h : Heap) (n : Nat) (K : KT) : Prop :=
  match wantD ops t o with
  | some true => aop P C o t h n (fun _ _ => False) fun v h' n' => Sub hS h' ∧ K v h' n'
  | some false => K undA h n
  | none => False

/-- what is to be shown of such a call -/
def okD (P : Program) (hS : Heap) (ops : Array Oper) (t : Nat → AV) (o : Oper) (v : AV) : Prop :=
  simpleB o.op = true ∨ wantD ops t o = some false ∨ PureC P hS t o.op v

def evD (P : Program) (C : Ctx) (S : List Tmp) (V : List AV) (hS : Heap) (ops : Array Oper) : List Oper → (Nat → AV) → Heap → Nat → FinT → Prop
  | [], t, h, n, K => K t h n
  | o :: os, t, h, n, K => if simpleP S o = true then ∃ v, valD P S V hS ops t o = some v ∧ okD P hS ops t o v ∧ evD P C S V hS ops os (putT t o.dst v) h n K
    else sigD P C hS ops o t h n fun v h' n' => evD P C S V hS ops os (putT t o.dst v) h' n' K

section
variable {P : Program} {C : Ctx} {S : List Tmp} {V : List AV} {hS : Heap} {ops : Array Oper}

/-- the slots that an operation looks at are the same -/
def Same (ops : Array Oper) (o : Oper) (t t' : Nat → AV) : Prop := ∀ d ∈ o.looksAt ops, t d = t' d

theorem Same.operands {o : Oper} {t t' : Nat → AV} (s : Same ops o t t') : ∀ x ∈ o.op.operands.toList, val t x = val t' x := by
  refine val_congr (l := o.op.operands.toList) fun d hd => s d ?_
  unfold Oper.looksAt
  exact List.mem_append.2 (.inl hd)

theorem wantD_congr {o : Oper} {t t' : Nat → AV} (s : Same ops o t t') : wantD ops t o = wantD ops t' o := by
  unfold wantD
  split
  · rfl
  · rename_i j want hg
    split
    · rename_i d hd
      have : t d = t' d := s d (by unfold Oper.looksAt; rw [hg]; simp only [hd]; simp)
      rw [this]
    · rfl

theorem valD_congr {o : Oper} {t t' : Nat → AV} (s : Same ops o t t') : valD P S V hS ops t o = valD P S V hS ops t' o := by
  unfold valD
  rw [wantD_congr s, sopX_congr s.operands]

theorem pureC_congr {o : Oper} {t t' : Nat → AV} {v : AV} (s : Same ops o t t') : PureC P hS t o.op v = PureC P hS t' o.op v := by
  have e := s.operands
  obtain ⟨dst, op, ty, pos, after, guard⟩ := o
  simp only at e ⊢
  cases op with
  | call c =>
    obtain ⟨callee, args, tys⟩ := c
    cases callee with
    | value f =>
      have ea : args.toList.map (val t) = args.toList.map (val t') := map_val_congr fun x hx => e x (by simp [Op.operands, Call.operands]; exact .inr (by simpa using hx))
      have hf := e f (by simp [Op.operands, Call.operands])
      unfold PureC
      simp only [ea, hf]
    | _ => rfl
  | _ => rfl

theorem okD_congr {o : Oper} {t t' : Nat → AV} {v : AV} (s : Same ops o t t') : okD P hS ops t o v = okD P hS ops t' o v := by
  unfold okD
  rw [wantD_congr s, pureC_congr s]

/-- a pure call is carried out -/
theorem pure_wp {o : Oper} {t : Nat → AV} {h : Heap} {n : Nat} {v : AV} (hs : Sub hS h) (p : PureC P hS t o.op v) : AOp P C o ⟨t, h, n⟩ (fun _ _ => False) (fun av h' n' => av = v ∧ h' = h ∧ n' = n) := by
  obtain ⟨dst, op, ty, pos, after, guard⟩ := o
  simp only at p
  unfold PureC at p
  split at p
  · rename_i f xs tys
    split at p
    · rename_i g first cap hf
      obtain ⟨hb, hc⟩ := p
      refine call_ok (f := f) (xs := xs) (tys := tys) rfl hf (.inl ⟨0, fun r h' => r = v ∧ h' = h, hb, ?_, ?_⟩)
      · rw [List.append_assoc]; exact hc h (C.b + n) hs
      · rintro r h' ⟨rfl, rfl⟩; exact ⟨rfl, rfl, rfl⟩
    · exact p.elim
  · exact p.elim

theorem sigD_congr {o : Oper} {t t' : Nat → AV} {h : Heap} {n : Nat} {K : KT} (s : Same ops o t t') : sigD P C hS ops o t h n K = sigD P C hS ops o t' h n K := by
  unfold sigD
  rw [wantD_congr s, aop_congr s.operands]

theorem Same.put {o : Oper} {t : Nat → AV} {d : Option Tmp} {v : AV} (hd : ∀ x, d = some x → x ∉ o.looksAt ops) : Same ops o (putT t d v) t := by
  intro x hx
  cases d with
  | none => rfl
  | some y =>
    show updT t y v x = t x
    rw [updT_ne _ _ _ _ (fun e => hd y rfl (by rw [← e]; exact hx))]

theorem putT_comm (t : Nat → AV) {x y : Option Tmp} (v u : AV) (h : ∀ d, x = some d → y ≠ some d) : putT (putT t x v) y u = putT (putT t y u) x v := by
  cases x with
  | none => rfl
  | some a =>
    cases y with
    | none => rfl
    | some b =>
      have hab : a ≠ b := fun e => h a rfl (by rw [e])
      funext i
      show updT (updT t a v) b u i = updT (updT t b u) a v i
      unfold updT
      split <;> split <;> simp_all

theorem splitB_mono {x : AV} {K K' : AV → Prop} (hk : ∀ v, K v → K' v) (e : splitB x K) : splitB x K' := by
  unfold splitB at e ⊢
  split at e
  · exact ⟨fun h => hk _ (e.1 h), fun h => hk _ (e.2 h)⟩
  · exact hk _ e

theorem optK_mono {x : Option AV} {K K' : AV → Prop} (hk : ∀ v, K v → K' v) (e : optK x K) : optK x K' := by
  obtain ⟨v, rfl, h⟩ := optK_ok e
  exact hk v h

theorem aop_mono {o : Oper} {t : Nat → AV} {h : Heap} {n : Nat} {E : Exit → St → Prop} {K K' : KT} (hk : ∀ v h n, K v h n → K' v h n) (e : aop P C o t h n E K) : aop P C o t h n E K' := by
  unfold aop at e ⊢
  split at e
  · exact splitB_mono (fun v => hk v h n) e
  · split at e
    · exact hk _ _ _ e
    · intro a w ι X Y I rx ry
      obtain ⟨v, w', av, h', n', ι', h1, h2, h3, h4, h5⟩ := e a w ι X Y I rx ry
      exact ⟨v, w', av, h', n', ι', h1, hk _ _ _ h2, h3, h4, h5⟩
  · exact ⟨e.1, hk _ _ _ e.2⟩
  · split at e
    · exact hk _ _ _ e
    · exact e.elim
  · split at e
    · exact hk _ _ _ e
    · exact e.elim
  · split at e
    · exact hk _ _ _ e
    · exact e.elim
  · intro a w ι X Y I rx ry
    obtain ⟨v, w', av, h', n', ι', h1, h2, h3, h4, h5⟩ := e a w ι X Y I rx ry
    exact ⟨v, w', av, h', n', ι', h1, hk _ _ _ h2, h3, h4, h5⟩
  · split at e
    · rcases e with ⟨m, R, hb, hc, hr⟩ | e | ⟨m, R, X, hb, hc, hr, hx⟩
      · exact .inl ⟨m, R, hb, hc, fun r h' hR => hk _ _ _ (hr r h' hR)⟩
      · refine .inr (.inl fun a w ι Vs I hv => ?_)
        obtain ⟨v, w', av, h', n', ι', h1, h2, h3, h4, h5⟩ := e a w ι Vs I hv
        exact ⟨v, w', av, h', n', ι', h1, hk _ _ _ h2, h3, h4, h5⟩
      · exact .inr (.inr ⟨m, R, X, hb, hc, fun r h' hR => hk _ _ _ (hr r h' hR), hx⟩)
    · exact e.elim
  · exact e
  iterate 3
    · intro a w ι Vs I hv ty cs
      obtain ⟨v, w', av, h', n', ι', h1, h2, h3, h4, h5⟩ := e a w ι Vs I hv ty cs
      exact ⟨v, w', av, h', n', ι', h1, hk _ _ _ h2, h3, h4, h5⟩
  · exact optK_mono (fun v => hk v h n) e

theorem sigD_mono {o : Oper} {t : Nat → AV} {h : Heap} {n : Nat} {K K' : KT} (hk : ∀ v h n, K v h n → K' v h n) (e : sigD P C hS ops o t h n K) : sigD P C hS ops o t h n K' := by
  unfold sigD at e ⊢
  split at e
  · exact aop_mono (fun v h n ⟨s, k⟩ => ⟨s, hk _ _ _ k⟩) e
  · exact hk _ _ _ e
  · exact e.elim

/-- an operation that goes on goes on somewhere -/
theorem wp_some {o : Oper} {a : Act} {w : World} {next : Act → World → Prop} (e : o.wp P a w next fun _ _ _ => False) : ∃ a' w', next a' w' := by
  unfold Oper.wp Oper.upon at e
  split at e
  · exact ⟨_, _, e⟩
  · exact ⟨_, _, e⟩
  · exact ⟨_, _, e⟩
  · obtain ⟨en, w', fr, hR, _⟩ := e []
    cases en with
    | returned v => exact ⟨_, _, hR⟩
    | panicked c => exact hR.elim
    | outgrown => obtain ⟨_, _, hf⟩ := hR; exact hf.elim
  · obtain ⟨v, w', hR, _⟩ := e default []
    exact ⟨_, _, hR⟩
  · exact e.elim
  · exact e.elim

theorem sig_some {o : Oper} {t : Nat → AV} {h : Heap} {n : Nat} {K : KT} {ι : Nat → Nat} {a : Act} {w : World} (I : Inv C ι ⟨t, h, n⟩ a w) (hs : Sub hS h) (e : sigD P C hS ops o t h n K) :
    ∃ v h' n' ι' w' u, K v h' n' ∧ Sub hS h' ∧ Inv C ι' ⟨t, h', n'⟩ a w' ∧ RAV ι' h' (C.b + n') w' v u := by
  unfold sigD at e
  split at e
  · have := aop_ok e a w ι I (fun _ _ => ∃ v h' n' ι' w' u, K v h' n' ∧ Sub hS h' ∧ Inv C ι' ⟨t, h', n'⟩ a w' ∧ RAV ι' h' (C.b + n') w' v u) (fun _ _ _ => False) (fun _ _ _ _ _ hf _ => hf) (fun v av h' n' ι' w' hk hI hr => ⟨av, h', n', ι', w', v, hk.2, hk.1, hI, hr⟩)
    obtain ⟨_, _, hh⟩ := wp_some this
    exact hh
  · exact ⟨_, h, n, ι, w, undef, e, hs, I, rav_v _⟩
  · exact e.elim

theorem simple_some {o : Oper} {t : Nat → AV} {h : Heap} {n : Nat} {ι : Nat → Nat} {a : Act} {w : World} (I : Inv C ι ⟨t, h, n⟩ a w) (hs : Sub hS h) {v : AV} (e : valD P S V hS ops t o = some v) (ok : okD P hS ops t o v) :
    ∃ ι' u w', Inv C ι' ⟨t, h, n⟩ a w' ∧ RAV ι' h (C.b + n) w' v u := by
  unfold valD at e
  split at e
  · rename_i hw
    split at e
    · obtain ⟨u, w', _, I', hr⟩ := sopX_ok (P := P) I (sopX_mono hs e)
      exact ⟨ι, u, w', I', hr⟩
    · rename_i hsb
      have p : PureC P hS t o.op v := by
        rcases ok with ok | ok | ok
        · exact absurd ok hsb
        · rw [hw] at ok; cases ok
        · exact ok
      have := pure_wp (C := C) (n := n) hs p a w ι I (fun _ _ => ∃ ι' u w', Inv C ι' ⟨t, h, n⟩ a w' ∧ RAV ι' h (C.b + n) w' v u) (fun _ _ _ => False) (fun _ _ _ _ _ hf _ => hf) (fun u av h' n' ι' w' hk hI hr => by
        obtain ⟨rfl, rfl, rfl⟩ := hk
        exact ⟨ι', u, w', hI, hr⟩)
      obtain ⟨_, _, hh⟩ := wp_some this
      exact hh
  · injection e with e; subst e; exact ⟨ι, undef, w, I, rav_v _⟩
  · cases e

theorem putT_keep {t : Nat → AV} {d : Option Tmp} {v : AV} {x : Nat} (h : d ≠ some x) : putT t d v x = t x := by
  cases d with
  | none => rfl
  | some y => exact updT_ne _ _ _ _ (fun e => h (by rw [e]))

/-- what goes on comes to an end somewhere -/
theorem evD_some : ∀ (l : List Oper) (t : Nat → AV) (h : Heap) (n : Nat) (ι : Nat → Nat) (a : Act) (w : World) (K : FinT), (∀ o ∈ l, dstOK C.N o.dst) → Inv C ι ⟨t, h, n⟩ a w → Sub hS h → evD P C S V hS ops l t h n K →
    ∃ t' h' n', K t' h' n' ∧ ∀ d, (∀ o ∈ l, o.dst ≠ some d) → t' d = t d
  | [], t, h, n, _, _, _, K, _, _, _, e => ⟨t, h, n, e, fun _ _ => rfl⟩
  | o :: os, t, h, n, ι, a, w, K, hd, I, hs, e => by
    unfold evD at e
    split at e
    · obtain ⟨v, hv, ok, e⟩ := e
      obtain ⟨ι', u, w', I', hr⟩ := simple_some I hs hv ok
      obtain ⟨t', h', n', k, hk⟩ := evD_some os _ h n ι' (a.put o.dst u) w' K (fun o ho => hd o (by simp [ho])) (I'.put (hd o (by simp)) hr) hs e
      exact ⟨t', h', n', k, fun d hn => (hk d (fun o ho => hn o (by simp [ho]))).trans (putT_keep (hn o (by simp)))⟩
    · obtain ⟨v, h', n', ι', w', u, hk, hs', I', hr⟩ := sig_some I hs e
      obtain ⟨t', h', n', k, hk⟩ := evD_some os _ h' n' ι' (a.put o.dst u) w' K (fun o ho => hd o (by simp [ho])) (I'.put (hd o (by simp)) hr) hs' hk
      exact ⟨t', h', n', k, fun d hn => (hk d (fun o ho => hn o (by simp [ho]))).trans (putT_keep (hn o (by simp)))⟩

theorem evD_mono : ∀ (l : List Oper) (t : Nat → AV) (h : Heap) (n : Nat) {K K' : FinT}, (∀ t h n, K t h n → K' t h n) → evD P C S V hS ops l t h n K → evD P C S V hS ops l t h n K'
  | [], t, h, n, _, _, hk, e => hk t h n e
  | o :: os, t, h, n, K, K', hk, e => by
    unfold evD at e ⊢
    split at e
    · rename_i hs; rw [if_pos hs]; obtain ⟨v, hv, ok, e⟩ := e; exact ⟨v, hv, ok, evD_mono os _ h n hk e⟩
    · rename_i hs; rw [if_neg hs]; exact sigD_mono (fun v h' n' e => evD_mono os _ h' n' hk e) e

theorem evD_app : ∀ (l l2 : List Oper) (t : Nat → AV) (h : Heap) (n : Nat) (K : FinT), evD P C S V hS ops (l ++ l2) t h n K = evD P C S V hS ops l t h n (fun t h n => evD P C S V hS ops l2 t h n K)
  | [], l2, t, h, n, K => rfl
  | o :: os, l2, t, h, n, K => by
    simp only [List.cons_append, evD]
    split
    · simp only [evD_app os l2]
    · simp only [evD_app os l2]

/-- two operations that have nothing to do with one another, at least one of them simple -/
def isLd : Op → Bool
  | .load .. => true
  | _ => false
def free2 (S : List Tmp) (ops : Array Oper) (x y : Oper) : Bool := x.apart ops y && (simpleP S x || simpleP S y || (isLd x.op && isLd y.op))

/-- what an operation that only reads hands over -/
def ldV (P : Program) (ops : Array Oper) (t : Nat → AV) (h : Heap) (o : Oper) : Option AV := match wantD ops t o with
  | some true => sop P t h o
  | some false => some undA
  | none => none
theorem sig_ld {o : Oper} (hl : isLd o.op = true) {t : Nat → AV} {h : Heap} {n : Nat} {K : KT} : sigD P C hS ops o t h n K ↔ ∃ v, ldV P ops t h o = some v ∧ (wantD ops t o = some true → Sub hS h) ∧ K v h n := by
  have ha : ∀ K' : KT, aop P C o t h n (fun _ _ => False) K' = optK (sop P t h o) (fun v => K' v h n) := fun K' => by
    obtain ⟨dst, op, ty, pos, after, guard⟩ := o
    cases op with
    | load a b => rfl
    | _ => cases hl
  unfold sigD ldV
  cases hw : wantD ops t o with
  | none => simp
  | some b =>
    cases b with
    | false => simp
    | true =>
      simp only [ha]
      cases hs : sop P t h o with
      | none => simp [optK]
      | some v => simp [optK]

/-- one ahead of the other: what comes next in the text may be carried out first -/
theorem evD_swap {x y : Oper} (hf : free2 S ops x y = true) {l : List Oper} {t : Nat → AV} {h : Heap} {n : Nat} {K : FinT} (hy0 : simpleP S y = true → ∃ u, valD P S V hS ops t y = some u ∧ okD P hS ops t y u)
    (e : evD P C S V hS ops (x :: y :: l) t h n K) : evD P C S V hS ops (y :: x :: l) t h n K := by
  simp only [free2, Bool.and_eq_true, Bool.or_eq_true] at hf
  obtain ⟨ha, hsim⟩ := hf
  obtain ⟨h1, h2, h3⟩ := Oper.apart_spec ha
  have sy : ∀ (t : Nat → AV) (v : AV), Same ops y (putT t x.dst v) t := fun t v => Same.put h1
  have sx : ∀ (t : Nat → AV) (v : AV), Same ops x (putT t y.dst v) t := fun t v => Same.put h3
  have cm : ∀ (t : Nat → AV) (v u : AV), putT (putT t x.dst v) y.dst u = putT (putT t y.dst u) x.dst v := fun t v u => putT_comm t v u h2
  unfold evD at e ⊢
  by_cases hx : simpleP S x = true
  · rw [if_pos hx] at e
    obtain ⟨v, hv, okv, e⟩ := e
    unfold evD at e
    by_cases hy : simpleP S y = true
    · rw [if_pos hy] at e ⊢
      obtain ⟨u, hu, oku, e⟩ := e
      rw [valD_congr (sy t v)] at hu
      rw [okD_congr (sy t v)] at oku
      refine ⟨u, hu, oku, ?_⟩
      unfold evD
      rw [if_pos hx]
      exact ⟨v, by rw [valD_congr (sx t u)]; exact hv, by rw [okD_congr (sx t u)]; exact okv, by rw [← cm]; exact e⟩
    · rw [if_neg hy] at e ⊢
      rw [sigD_congr (sy t v)] at e
      refine sigD_mono (fun u h' n' e => ?_) e
      unfold evD
      rw [if_pos hx]
      exact ⟨v, by rw [valD_congr (sx t u)]; exact hv, by rw [okD_congr (sx t u)]; exact okv, by rw [← cm]; exact e⟩
  · rw [if_neg hx] at e
    by_cases hy : simpleP S y = true
    case neg =>
      obtain ⟨lx, ly⟩ := hsim.resolve_left (fun q => q.elim hx hy)
      rw [if_neg hy]
      obtain ⟨v, hv, sv, e⟩ := (sig_ld lx).1 e
      unfold evD at e
      rw [if_neg hy, sigD_congr (sy t v)] at e
      obtain ⟨u, hu, su, e⟩ := (sig_ld ly).1 e
      refine (sig_ld ly).2 ⟨u, hu, su, ?_⟩
      unfold evD
      rw [if_neg hx, sigD_congr (sx t u)]
      exact (sig_ld lx).2 ⟨v, hv, sv, by rw [← cm]; exact e⟩
    rw [if_pos hy]
    obtain ⟨u, hu, oku⟩ := hy0 hy
    refine ⟨u, hu, oku, ?_⟩
    unfold evD
    rw [if_neg hx, sigD_congr (sx t u)]
    refine sigD_mono (fun v h' n' e => ?_) e
    unfold evD at e
    rw [if_pos hy] at e
    obtain ⟨u', hu', _, e⟩ := e
    rw [valD_congr (sy t v), hu] at hu'
    injection hu' with hu'
    subst hu'
    rw [← cm]
    exact e

/-- an operation is carried out ahead of all that it has nothing to do with -/
theorem evD_front {y : Oper} : ∀ (l1 : List Oper) {l2 : List Oper} {t : Nat → AV} {h : Heap} {n : Nat} {K : FinT}, (∀ x ∈ l1, free2 S ops x y = true) → (simpleP S y = true → ∃ u, valD P S V hS ops t y = some u ∧ okD P hS ops t y u) →
    evD P C S V hS ops (l1 ++ y :: l2) t h n K → evD P C S V hS ops (y :: (l1 ++ l2)) t h n K
  | [], _, _, _, _, _, _, _, e => e
  | x :: l1, l2, t, h, n, K, hf, hy0, e => by
    have hfx := hf x (by simp)
    have hap : x.apart ops y = true := by simp only [free2, Bool.and_eq_true] at hfx; exact hfx.1
    have sy : ∀ (t : Nat → AV) (v : AV), Same ops y (putT t x.dst v) t := fun t v => Same.put (Oper.apart_spec hap).1
    refine evD_swap hfx hy0 ?_
    rw [List.cons_append] at e
    unfold evD at e ⊢
    have hy1 : ∀ v, simpleP S y = true → ∃ u, valD P S V hS ops (putT t x.dst v) y = some u ∧ okD P hS ops (putT t x.dst v) y u := fun v hy => by
      obtain ⟨u, hu, oku⟩ := hy0 hy
      exact ⟨u, by rw [valD_congr (sy t v)]; exact hu, by rw [okD_congr (sy t v)]; exact oku⟩
    by_cases hx : simpleP S x = true
    · rw [if_pos hx] at e ⊢
      obtain ⟨v, hv, okv, e⟩ := e
      exact ⟨v, hv, okv, evD_front l1 (fun z hz => hf z (by simp [hz])) (hy1 v) e⟩
    · rw [if_neg hx] at e ⊢
      exact sigD_mono (fun v h' n' e => evD_front l1 (fun z hz => hf z (by simp [hz])) (hy1 v) e) e

theorem free2_same {y : Oper} {t t' : Nat → AV} {l1 : List Oper} (hf : ∀ x ∈ l1, free2 S ops x y = true) (hk : ∀ d, (∀ o ∈ l1, o.dst ≠ some d) → t' d = t d) : Same ops y t' t := by
  intro d hd
  refine hk d fun o ho e => ?_
  have := hf o ho
  simp only [free2, Bool.and_eq_true] at this
  exact (Oper.apart_spec this.1).1 d e hd

theorem evD_first {y : Oper} (l1 : List Oper) {l2 : List Oper} {t : Nat → AV} {h : Heap} {n : Nat} {K : FinT} {ι : Nat → Nat} {a : Act} {w : World} (hf : ∀ x ∈ l1, free2 S ops x y = true) (hd : ∀ x ∈ l1, dstOK C.N x.dst)
    (I : Inv C ι ⟨t, h, n⟩ a w) (hs : Sub hS h) (e : evD P C S V hS ops (l1 ++ y :: l2) t h n K) : evD P C S V hS ops (y :: (l1 ++ l2)) t h n K := by
  refine evD_front l1 hf (fun hy => ?_) e
  rw [evD_app] at e
  obtain ⟨t', h', n', k, hk⟩ := evD_some l1 t h n ι a w _ hd I hs e
  unfold evD at k
  rw [if_pos hy] at k
  obtain ⟨u, hu, oku, _⟩ := k
  exact ⟨u, by rw [← valD_congr (free2_same (y := y) hf hk)]; exact hu, by rw [← okD_congr (free2_same (y := y) hf hk)]; exact oku⟩

/-! ### whatever order is picked -/
/-- number i waits for number j, through others or not -/
def waits (ops : Array Oper) : Nat → Nat → Nat → Bool
  | 0, _, _ => false
  | f + 1, i, j => match ops[i]? with
    | some o => o.after.any fun e => Region.binds .any e && (e.on == j || waits ops f e.on j)
    | none => false

/-- what the rule asks of a region -/
def drawB (S : List Tmp) (ops : Array Oper) : Bool :=
  (List.range ops.size).all fun i => match ops[i]? with
    | some o => (o.after.all fun e => !Region.binds .any e || decide (e.on < i)) && (List.range i).all fun j => match ops[j]? with
      | some x => waits ops ops.size i j || free2 S ops x o
      | none => true
    | none => true

theorem waits_listed {listed : Array Bool} (hc : ∀ k ok, ops[k]? = some ok → listed.getD k true = true → ∀ e ∈ ok.after, Region.binds .any e = true → listed.getD e.on true = true) :
    ∀ (f i j : Nat) (oi : Oper), ops[i]? = some oi → (∀ e ∈ oi.after, Region.binds .any e = true → listed.getD e.on true = true) → waits ops f i j = true → listed.getD j true = true
  | 0, _, _, _, _, _, h => by cases h
  | f + 1, i, j, oi, hi, ha, h => by
    unfold waits at h
    rw [hi] at h
    simp only at h
    obtain ⟨e, he, hb⟩ := Array.any_eq_true'.1 h
    simp only [Bool.and_eq_true, Bool.or_eq_true, beq_iff_eq] at hb
    rcases hb.2 with h2 | h2
    · rw [← h2]; exact ha e he hb.1
    · cases hk : ops[e.on]? with
      | none => cases f <;> simp [waits, hk] at h2
      | some ok => exact waits_listed hc f e.on j ok hk (hc e.on ok hk (ha e he hb.1)) h2

theorem drawB_spec (hB : drawB S ops = true) {i : Nat} {o : Oper} (hi : ops[i]? = some o) : (∀ e ∈ o.after, Region.binds .any e = true → e.on < i) ∧ ∀ j x, j < i → ops[j]? = some x → waits ops ops.size i j = true ∨ free2 S ops x o = true := by
  have hlt : i < ops.size := (Array.getElem?_eq_some_iff.1 hi).1
  have := List.all_eq_true.1 hB i (List.mem_range.2 hlt)
  rw [hi] at this
  simp only [Bool.and_eq_true, List.all_eq_true, List.mem_range] at this
  refine ⟨fun e he hb => ?_, fun j x hj hx => ?_⟩
  · have := Array.all_eq_true_iff_forall_mem.1 this.1 e he
    simp only [hb, Bool.not_true, Bool.false_or, decide_eq_true_eq] at this
    exact this
  · have := this.2 j hj
    rw [hx] at this
    simpa using this

/-- the operations of some numbers -/
def opsAt (ops : Array Oper) (R : List Nat) : List Oper := R.filterMap (ops[·]?)

theorem getD_set {listed : Array Bool} {i j : Nat} : (listed.setIfInBounds i true).getD j true = if i = j then true else listed.getD j true := by
  simp only [Array.getD_eq_getD_getElem?, Array.getElem?_setIfInBounds]
  by_cases h : i = j
  · rw [if_pos h, if_pos h]
    split <;> rfl
  · rw [if_neg h, if_neg h]

theorem wanted_ok {t : Nat → AV} {h : Heap} {n : Nat} {ι : Nat → Nat} {a : Act} {w : World} (I : Inv C ι ⟨t, h, n⟩ a w) (hN : ∀ (i : Nat) (o : Oper), ops[i]? = some o → dstOK C.N o.dst) {o : Oper} {b : Bool} (e : wantD ops t o = some b) :
    Region.wanted o (yielded ops a.tmps) = b := by
  unfold wantD at e
  unfold Region.wanted
  split at e
  · rename_i hg; rw [hg]; injection e
  · rename_i j want hg
    rw [hg]
    split at e
    · rename_i d hd
      split at e
      · rename_i g ht
        injection e with e
        subst e
        have hd2 : d < C.N := by
          cases hh : ops[j]? with
          | none => rw [hh] at hd; simp at hd
          | some oj =>
            rw [hh] at hd
            have := hN j oj hh
            simp only [Option.bind_some] at hd
            rw [hd] at this
            exact this
        have hr := I.tmps d
        simp only [ht] at hr
        have hv := rav_v_inv hr
        have hlt : d < a.tmps.size := by rw [I.ntmps]; exact hd2
        have h2 : a.tmps[d]? = some (.bool g) := by
          have h3 : a.tmps.getD d undef = a.tmps[d] := by simp [Array.getD, hlt]
          rw [Array.getElem?_eq_getElem hlt, ← h3]
          exact congrArg some hv
        have hy : yielded ops a.tmps j = some g := by
          unfold yielded
          rw [hd]
          simp only [Option.bind_some, h2]
        show (yielded ops a.tmps j == some want) = (g == want)
        rw [hy]
        cases g <;> cases want <;> rfl
      · rename_i xs ht
        injection e with e
        subst e
        have hd2 : d < C.N := by
          cases hh : ops[j]? with
          | none => rw [hh] at hd; simp at hd
          | some oj =>
            rw [hh] at hd
            have := hN j oj hh
            simp only [Option.bind_some] at hd
            rw [hd] at this
            exact this
        have hr := I.tmps d
        simp only [ht] at hr
        have hv := rav_v_inv hr
        have hlt : d < a.tmps.size := by rw [I.ntmps]; exact hd2
        have h2 : a.tmps[d]? = some (.tuple xs) := by
          have h3 : a.tmps.getD d undef = a.tmps[d] := by simp [Array.getD, hlt]
          rw [Array.getElem?_eq_getElem hlt, ← h3]
          exact congrArg some hv
        have hy : yielded ops a.tmps j = none := by
          unfold yielded
          rw [hd]
          simp only [Option.bind_some, h2]
        show (yielded ops a.tmps j == some want) = false
        rw [hy]
        rfl
      · cases e
    · cases e

theorem listed_true {listed : Array Bool} {j : Nat} (hj : j < listed.size) : listed.getD j true = listed.getD j false := by
  simp [Array.getD, hj]

theorem evD_any (hB : drawB S ops = true) (hN : ∀ (i : Nat) (o : Oper), ops[i]? = some o → dstOK C.N o.dst) {Q : Exit → Act → World → Prop} (K : FinT) (hK : ∀ t h n ι a w, K t h n → Inv C ι ⟨t, h, n⟩ a w → Q .normal a w) :
    ∀ (m : Nat) (R : List Nat) (listed : Array Bool) (t : Nat → AV) (h : Heap) (n : Nat) (ι : Nat → Nat) (a : Act) (w : World), R.length = m → listed.size = ops.size → R.Pairwise (· < ·) → (∀ i, i ∈ R ↔ i < ops.size ∧ listed.getD i true = false) →
      (∀ (k : Nat) (ok : Oper), ops[k]? = some ok → listed.getD k true = true → ∀ e ∈ ok.after, Region.binds .any e = true → listed.getD e.on true = true) →
      Inv C ι ⟨t, h, n⟩ a w → Sub hS h → evD P C S V hS ops (opsAt ops R) t h n K → wpAny P .any ops Q m listed a w := by
  intro m
  induction m with
  | zero =>
    intro R listed t h n ι a w hm hsz _ hR _ I hs e
    have : R = [] := List.eq_nil_of_length_eq_zero hm
    subst this
    refine ⟨?_, hK t h n ι a w e I⟩
    apply List.eq_nil_iff_forall_not_mem.2
    intro j hj
    obtain ⟨h1, oj, h2, _⟩ := mem_ready.1 hj
    have := (hR j).2 ⟨(Array.getElem?_eq_some_iff.1 h2).1, h1⟩
    cases this
  | succ m ih =>
    intro R listed t h n ι a w hm hsz hord hR hcl I hs e
    refine ⟨fun h0 => ?_, fun i hi => ?_⟩
    · -- the first one of the text may come up
      exfalso
      cases R with
      | nil => simp at hm
      | cons i0 R' =>
        obtain ⟨hi0, hl0⟩ := (hR i0).1 (by simp)
        have hop : ops[i0]? = some ops[i0] := Array.getElem?_eq_getElem hi0
        have : i0 ∈ Region.ready .any ops listed := by
          refine mem_ready.2 ⟨hl0, ops[i0], hop, fun e he hb => ?_⟩
          have hlt := (drawB_spec hB hop).1 e he hb
          have hnot : ¬ e.on ∈ i0 :: R' := by
            intro hmem
            rcases List.mem_cons.1 hmem with h1 | h1
            · omega
            · have := (List.pairwise_cons.1 hord).1 _ h1; omega
          rw [hR] at hnot
          have h3 : listed.getD e.on true = true := by
            cases hh : listed.getD e.on true with
            | true => rfl
            | false => exact absurd ⟨by omega, hh⟩ hnot
          rw [← listed_true (by omega)]
          exact h3
        rw [h0] at this
        cases this
    · obtain ⟨hli, oi, hoi, hall⟩ := mem_ready.1 hi
      have hilt : i < ops.size := (Array.getElem?_eq_some_iff.1 hoi).1
      obtain ⟨R1, R2, rfl⟩ := List.append_of_mem ((hR i).2 ⟨hilt, hli⟩)
      obtain ⟨p1, p2, p3⟩ := List.pairwise_append.1 hord
      have hall' : ∀ e ∈ oi.after, Region.binds .any e = true → listed.getD e.on true = true := fun e he hb => by
        have h1 := hall e he hb
        rcases Nat.lt_or_ge e.on listed.size with hlt | hge
        · rw [listed_true hlt]; exact h1
        · simp [Array.getElem?_eq_none hge] at h1
      have hfree : ∀ x ∈ opsAt ops R1, free2 S ops x oi = true := by
        intro x hx
        obtain ⟨j, hj, hxj⟩ := List.mem_filterMap.1 hx
        have hji : j < i := p3 j hj i (by simp)
        rcases (drawB_spec hB hoi).2 j x hji hxj with hw | hf
        · have h1 := waits_listed hcl ops.size i j oi hoi hall' hw
          have h2 := ((hR j).1 (by simp [hj])).2
          rw [h1] at h2
          cases h2
        · exact hf
      have hdst : ∀ x ∈ opsAt ops R1, dstOK C.N x.dst := by
        intro x hx
        obtain ⟨j, _, hxj⟩ := List.mem_filterMap.1 hx
        exact hN j x hxj
      have hsplit : opsAt ops (R1 ++ i :: R2) = opsAt ops R1 ++ oi :: opsAt ops R2 := by
        unfold opsAt
        rw [List.filterMap_append, List.filterMap_cons, hoi]
      rw [hsplit] at e
      have e := evD_first (opsAt ops R1) hfree hdst I hs e
      have happ : opsAt ops R1 ++ opsAt ops R2 = opsAt ops (R1 ++ R2) := by unfold opsAt; rw [List.filterMap_append]
      rw [happ] at e
      have hlen : (R1 ++ R2).length = m := by simp at hm ⊢; omega
      have hord' : (R1 ++ R2).Pairwise (· < ·) := List.pairwise_append.2 ⟨p1, (List.pairwise_cons.1 p2).2, fun x hx y hy => p3 x hx y (by simp [hy])⟩
      have hni : i ∉ R1 ++ R2 := by
        intro hmem
        rcases List.mem_append.1 hmem with h1 | h1
        · have := p3 i h1 i (by simp); omega
        · have := (List.pairwise_cons.1 p2).1 i h1; omega
      have hR' : ∀ k, k ∈ R1 ++ R2 ↔ k < ops.size ∧ (listed.setIfInBounds i true).getD k true = false := by
        intro k
        rw [getD_set]
        by_cases hik : i = k
        · subst hik
          rw [if_pos rfl]
          exact ⟨fun hmem => absurd hmem hni, fun hh => by cases hh.2⟩
        · rw [if_neg hik, ← hR k]
          simp only [List.mem_append, List.mem_cons]
          exact ⟨fun hh => by rcases hh with hh | hh; exact .inl hh; exact .inr (.inr hh), fun hh => by rcases hh with hh | hh | hh; exact .inl hh; exact absurd hh.symm hik; exact .inr hh⟩
      have hcl' : ∀ (k : Nat) (ok : Oper), ops[k]? = some ok → (listed.setIfInBounds i true).getD k true = true → ∀ e ∈ ok.after, Region.binds .any e = true → (listed.setIfInBounds i true).getD e.on true = true := by
        intro k ok hk hl e he hb
        rw [getD_set] at hl ⊢
        split
        · rfl
        · by_cases hik : i = k
          · subst hik
            rw [hoi] at hk
            injection hk with hk
            subst hk
            exact hall' e he hb
          · rw [if_neg hik] at hl
            exact hcl k ok hk hl e he hb
      have next : ∀ (v : Value) (av : AV) (h' : Heap) (n' : Nat) (ι' : Nat → Nat) (w' : World), Sub hS h' → evD P C S V hS ops (opsAt ops (R1 ++ R2)) (putT t oi.dst av) h' n' K → Inv C ι' ⟨t, h', n'⟩ a w' → RAV ι' h' (C.b + n') w' av v →
          wpAny P .any ops Q m (listed.setIfInBounds i true) (a.put oi.dst v) w' := by
        intro v av h' n' ι' w' hs' e' I' hr
        exact ih (R1 ++ R2) _ _ h' n' ι' _ w' hlen (by simpa using hsz) hord' hR' hcl' (I'.put (hN i oi hoi) hr) hs' e'
      unfold wpOp
      simp only [hoi]
      unfold evD at e
      by_cases hsim : simpleP S oi = true
      · rw [if_pos hsim] at e
        obtain ⟨av, hv, okv, e⟩ := e
        unfold valD at hv
        split at hv
        · rename_i hwant
          rw [wanted_ok I hN hwant, if_pos rfl]
          refine .inl ?_
          split at hv
          · obtain ⟨v, w', h1, I', h2⟩ := sopX_ok (P := P) I (sopX_mono hs hv)
            unfold Oper.wp
            rw [h1, Oper.upon_value]
            exact next v av h n ι w' hs e I' h2
          · rename_i hsb
            have p : PureC P hS t oi.op av := by
              rcases okv with okv | okv | okv
              · exact absurd okv hsb
              · rw [hwant] at okv; cases okv
              · exact okv
            exact pure_wp (C := C) (n := n) hs p a w ι I _ Q (fun _ _ _ _ _ hf _ => hf.elim) (fun v av' h' n' ι' w' hk hI hr => by
              obtain ⟨rfl, rfl, rfl⟩ := hk
              exact next v _ _ _ ι' w' hs e hI hr)
        · rename_i hwant
          rw [wanted_ok I hN hwant, if_neg (by simp)]
          injection hv with hv
          subst hv
          exact next undef _ h n ι w hs e I (rav_v _)
        · cases hv
      · rw [if_neg hsim] at e
        unfold sigD at e
        split at e
        · rename_i hwant
          rw [wanted_ok I hN hwant, if_pos rfl]
          refine .inl ?_
          exact aop_ok e a w ι I _ Q (fun _ _ _ _ _ hf _ => hf.elim) (fun v av h' n' ι' w' hk hI hr => next v av h' n' ι' w' hk.1 hk.2 hI hr)
        · rename_i hwant
          rw [wanted_ok I hN hwant, if_neg (by simp)]
          exact next undef _ h n ι w hs e I (rav_v _)
        · exact e.elim

/-- the last operation waits for all others -/
def lastB (ops : Array Oper) : Bool := 0 < ops.size && (List.range (ops.size - 1)).all fun j => waits ops ops.size (ops.size - 1) j

/-- the last operation, behind all others -/
def lastK (P : Program) (C : Ctx) (ops : Array Oper) (K : FinT) (t : Nat → AV) (h : Heap) (n : Nat) : Prop :=
  match ops[ops.size - 1]? with
  | some o => match wantD ops t o with
    | some true => aop P C o t h n (fun _ _ => False) fun v h' n' => K (putT t o.dst v) h' n'
    | some false => K (putT t o.dst undA) h n
    | none => False
  | none => False

theorem evD_anyL (hLB : lastB ops = true) (hB : drawB S ops = true) (hN : ∀ (i : Nat) (o : Oper), ops[i]? = some o → dstOK C.N o.dst) {Q : Exit → Act → World → Prop} (K : FinT) (hK : ∀ t h n ι a w, K t h n → Inv C ι ⟨t, h, n⟩ a w → Q .normal a w) :
    ∀ (m : Nat) (R : List Nat) (listed : Array Bool) (t : Nat → AV) (h : Heap) (n : Nat) (ι : Nat → Nat) (a : Act) (w : World), R.length = m → listed.size = ops.size → R.Pairwise (· < ·) → (∀ i, i ∈ R ++ [ops.size - 1] ↔ i < ops.size ∧ listed.getD i true = false) → (∀ i ∈ R, i < ops.size - 1) →
      (∀ (k : Nat) (ok : Oper), ops[k]? = some ok → listed.getD k true = true → ∀ e ∈ ok.after, Region.binds .any e = true → listed.getD e.on true = true) →
      Inv C ι ⟨t, h, n⟩ a w → Sub hS h → evD P C S V hS ops (opsAt ops R) t h n (lastK P C ops K) → wpAny P .any ops Q (m + 1) listed a w := by
  have hpos : 0 < ops.size := by unfold lastB at hLB; simp only [Bool.and_eq_true, decide_eq_true_eq] at hLB; exact hLB.1
  have hwait : ∀ j, j < ops.size - 1 → waits ops ops.size (ops.size - 1) j = true := by
    intro j hj
    unfold lastB at hLB
    simp only [Bool.and_eq_true, List.all_eq_true, List.mem_range] at hLB
    exact hLB.2 j hj
  intro m
  induction m with
  | zero =>
    intro R listed t h n ι a w hm hsz _ hR hlt hcl I hs e
    have : R = [] := List.eq_nil_of_length_eq_zero hm
    subst this
    have e : lastK P C ops K t h n := e
    have hone : ∀ i, i = ops.size - 1 ↔ i < ops.size ∧ listed.getD i true = false := fun i => by rw [← hR i]; simp
    refine ⟨fun h0 => ?_, fun i hi => ?_⟩
    · exfalso
      obtain ⟨hi0, hl0⟩ := (hone (ops.size - 1)).1 rfl
      have hop : ops[ops.size - 1]? = some (ops[ops.size - 1]'hi0) := Array.getElem?_eq_getElem hi0
      have : ops.size - 1 ∈ Region.ready .any ops listed := by
        refine mem_ready.2 ⟨hl0, _, hop, fun e he hb => ?_⟩
        have hlt := (drawB_spec hB hop).1 e he hb
        have h3 : listed.getD e.on true = true := by
          cases hh : listed.getD e.on true with
          | true => rfl
          | false => have := (hone e.on).2 ⟨by omega, hh⟩; omega
        rw [← listed_true (by omega)]
        exact h3
      rw [h0] at this
      cases this
    · obtain ⟨hli, oi, hoi, hall⟩ := mem_ready.1 hi
      have hilt : i < ops.size := (Array.getElem?_eq_some_iff.1 hoi).1
      have hiL := (hone i).2 ⟨hilt, hli⟩
      subst hiL
      have next : ∀ (v : Value) (av : AV) (h' : Heap) (n' : Nat) (ι' : Nat → Nat) (w' : World), K (putT t oi.dst av) h' n' → Inv C ι' ⟨t, h', n'⟩ a w' → RAV ι' h' (C.b + n') w' av v →
          wpAny P .any ops Q 0 (listed.setIfInBounds (ops.size - 1) true) (a.put oi.dst v) w' := by
        intro v av h' n' ι' w' hk I' hr
        refine ⟨?_, hK _ _ _ ι' _ _ hk (I'.put (hN _ oi hoi) hr)⟩
        apply List.eq_nil_iff_forall_not_mem.2
        intro j hj
        obtain ⟨h1, oj, h2, _⟩ := mem_ready.1 hj
        rw [getD_set] at h1
        split at h1
        · cases h1
        · rename_i hne
          exact hne ((hone j).2 ⟨(Array.getElem?_eq_some_iff.1 h2).1, h1⟩).symm
      unfold wpOp
      simp only [hoi]
      unfold lastK at e
      rw [hoi] at e
      simp only at e
      split at e
      · rename_i hwant
        rw [wanted_ok I hN hwant, if_pos rfl]
        refine .inl ?_
        exact aop_ok e a w ι I _ Q (fun _ _ _ _ _ hf _ => hf.elim) (fun v av h' n' ι' w' hk hI hr => next v av h' n' ι' w' hk hI hr)
      · rename_i hwant
        rw [wanted_ok I hN hwant, if_neg (by simp)]
        exact next undef _ h n ι w e I (rav_v _)
      · exact e.elim
  | succ m ih =>
    intro R listed t h n ι a w hm hsz hord hR hRlt hcl I hs e
    refine ⟨fun h0 => ?_, fun i hi => ?_⟩
    · exfalso
      cases R with
      | nil => simp at hm
      | cons i0 R' =>
        obtain ⟨hi0, hl0⟩ := (hR i0).1 (by simp)
        have hop : ops[i0]? = some ops[i0] := Array.getElem?_eq_getElem hi0
        have : i0 ∈ Region.ready .any ops listed := by
          refine mem_ready.2 ⟨hl0, ops[i0], hop, fun e he hb => ?_⟩
          have hlt := (drawB_spec hB hop).1 e he hb
          have hi0L := hRlt i0 (by simp)
          have hnot : ¬ e.on ∈ (i0 :: R') ++ [ops.size - 1] := by
            intro hmem
            rcases List.mem_append.1 hmem with hmem | hmem
            · rcases List.mem_cons.1 hmem with h1 | h1
              · omega
              · have := (List.pairwise_cons.1 hord).1 _ h1; omega
            · simp at hmem; omega
          rw [hR] at hnot
          have h3 : listed.getD e.on true = true := by
            cases hh : listed.getD e.on true with
            | true => rfl
            | false => exact absurd ⟨by omega, hh⟩ hnot
          rw [← listed_true (by omega)]
          exact h3
        rw [h0] at this
        cases this
    · obtain ⟨hli, oi, hoi, hall⟩ := mem_ready.1 hi
      have hilt : i < ops.size := (Array.getElem?_eq_some_iff.1 hoi).1
      have hall' : ∀ e ∈ oi.after, Region.binds .any e = true → listed.getD e.on true = true := fun e he hb => by
        have h1 := hall e he hb
        rcases Nat.lt_or_ge e.on listed.size with hlt | hge
        · rw [listed_true hlt]; exact h1
        · simp [Array.getElem?_eq_none hge] at h1
      have hiR : i ∈ R := by
        rcases List.mem_append.1 ((hR i).2 ⟨hilt, hli⟩) with h1 | h1
        · exact h1
        · exfalso
          simp at h1
          subst h1
          cases R with
          | nil => simp at hm
          | cons j R' =>
            have hj := hRlt j (by simp)
            have h1 := waits_listed hcl ops.size _ j oi hoi hall' (hwait j hj)
            have h2 := ((hR j).1 (by simp)).2
            rw [h1] at h2
            cases h2
      obtain ⟨R1, R2, rfl⟩ := List.append_of_mem hiR
      obtain ⟨p1, p2, p3⟩ := List.pairwise_append.1 hord
      have hfree : ∀ x ∈ opsAt ops R1, free2 S ops x oi = true := by
        intro x hx
        obtain ⟨j, hj, hxj⟩ := List.mem_filterMap.1 hx
        have hji : j < i := p3 j hj i (by simp)
        rcases (drawB_spec hB hoi).2 j x hji hxj with hw | hf
        · have h1 := waits_listed hcl ops.size i j oi hoi hall' hw
          have h2 := ((hR j).1 (by simp [hj])).2
          rw [h1] at h2
          cases h2
        · exact hf
      have hdst : ∀ x ∈ opsAt ops R1, dstOK C.N x.dst := by
        intro x hx
        obtain ⟨j, _, hxj⟩ := List.mem_filterMap.1 hx
        exact hN j x hxj
      have hsplit : opsAt ops (R1 ++ i :: R2) = opsAt ops R1 ++ oi :: opsAt ops R2 := by
        unfold opsAt
        rw [List.filterMap_append, List.filterMap_cons, hoi]
      rw [hsplit] at e
      have e := evD_first (opsAt ops R1) hfree hdst I hs e
      have happ : opsAt ops R1 ++ opsAt ops R2 = opsAt ops (R1 ++ R2) := by unfold opsAt; rw [List.filterMap_append]
      rw [happ] at e
      have hlen : (R1 ++ R2).length = m := by simp at hm ⊢; omega
      have hord' : (R1 ++ R2).Pairwise (· < ·) := List.pairwise_append.2 ⟨p1, (List.pairwise_cons.1 p2).2, fun x hx y hy => p3 x hx y (by simp [hy])⟩
      have hni : i ∉ R1 ++ R2 := by
        intro hmem
        rcases List.mem_append.1 hmem with h1 | h1
        · have := p3 i h1 i (by simp); omega
        · have := (List.pairwise_cons.1 p2).1 i h1; omega
      have hR' : ∀ k, k ∈ (R1 ++ R2) ++ [ops.size - 1] ↔ k < ops.size ∧ (listed.setIfInBounds i true).getD k true = false := by
        intro k
        rw [getD_set]
        by_cases hik : i = k
        · subst hik
          rw [if_pos rfl]
          exact ⟨fun hmem => absurd hmem (fun hmem => (List.mem_append.1 hmem).elim hni (fun hq => by have := hRlt i (by simp); simp at hq; omega)), fun hh => by cases hh.2⟩
        · rw [if_neg hik, ← hR k]
          simp only [List.mem_append, List.mem_cons, List.not_mem_nil, or_false]
          have hik' : ¬ k = i := fun h => hik h.symm
          simp only [hik', false_or]
      have hcl' : ∀ (k : Nat) (ok : Oper), ops[k]? = some ok → (listed.setIfInBounds i true).getD k true = true → ∀ e ∈ ok.after, Region.binds .any e = true → (listed.setIfInBounds i true).getD e.on true = true := by
        intro k ok hk hl e he hb
        rw [getD_set] at hl ⊢
        split
        · rfl
        · by_cases hik : i = k
          · subst hik
            rw [hoi] at hk
            injection hk with hk
            subst hk
            exact hall' e he hb
          · rw [if_neg hik] at hl
            exact hcl k ok hk hl e he hb
      have next : ∀ (v : Value) (av : AV) (h' : Heap) (n' : Nat) (ι' : Nat → Nat) (w' : World), Sub hS h' → evD P C S V hS ops (opsAt ops (R1 ++ R2)) (putT t oi.dst av) h' n' (lastK P C ops K) → Inv C ι' ⟨t, h', n'⟩ a w' → RAV ι' h' (C.b + n') w' av v →
          wpAny P .any ops Q (m + 1) (listed.setIfInBounds i true) (a.put oi.dst v) w' := by
        intro v av h' n' ι' w' hs' e' I' hr
        exact ih (R1 ++ R2) _ _ h' n' ι' _ w' hlen (by simpa using hsz) hord' hR' (fun k hk => hRlt k (by rcases List.mem_append.1 hk with h | h <;> simp [h])) hcl' (I'.put (hN i oi hoi) hr) hs' e'
      unfold wpOp
      simp only [hoi]
      unfold evD at e
      by_cases hsim : simpleP S oi = true
      · rw [if_pos hsim] at e
        obtain ⟨av, hv, okv, e⟩ := e
        unfold valD at hv
        split at hv
        · rename_i hwant
          rw [wanted_ok I hN hwant, if_pos rfl]
          refine .inl ?_
          split at hv
          · obtain ⟨v, w', h1, I', h2⟩ := sopX_ok (P := P) I (sopX_mono hs hv)
            unfold Oper.wp
            rw [h1, Oper.upon_value]
            exact next v av h n ι w' hs e I' h2
          · rename_i hsb
            have p : PureC P hS t oi.op av := by
              rcases okv with okv | okv | okv
              · exact absurd okv hsb
              · rw [hwant] at okv; cases okv
              · exact okv
            exact pure_wp (C := C) (n := n) hs p a w ι I _ Q (fun _ _ _ _ _ hf _ => hf.elim) (fun v av' h' n' ι' w' hk hI hr => by
              obtain ⟨rfl, rfl, rfl⟩ := hk
              exact next v _ _ _ ι' w' hs e hI hr)
        · rename_i hwant
          rw [wanted_ok I hN hwant, if_neg (by simp)]
          injection hv with hv
          subst hv
          exact next undef _ h n ι w hs e I (rav_v _)
        · cases hv
      · rw [if_neg hsim] at e
        unfold sigD at e
        split at e
        · rename_i hwant
          rw [wanted_ok I hN hwant, if_pos rfl]
          refine .inl ?_
          exact aop_ok e a w ι I _ Q (fun _ _ _ _ _ hf _ => hf.elim) (fun v av h' n' ι' w' hk hI hr => next v av h' n' ι' w' hk.1 hk.2 hI hr)
        · rename_i hwant
          rw [wanted_ok I hN hwant, if_neg (by simp)]
          exact next undef _ h n ι w hs e I (rav_v _)
        · exact e.elim

theorem AWP.regionD {Q : Exit → St → Prop} {s : St} {id : Nat} (hm : P.follows .mixedOrders = true) (hB : drawB S ops = true) (hN : dstsB C.N ops.toList = true) (hs : Sub hS s.h)
    (e : evD P C S V hS ops ops.toList s.t s.h s.n (fun t h n => Q .normal ⟨t, h, n⟩)) (hr : C.x.rd = none := by rfl) : AWP P C (.region id ops true) Q s := by
  refine AWP.of_wp hr (fun a w ι I => ?_)
  refine wp_region_any hm ?_
  have hN' : ∀ (i : Nat) (o : Oper), ops[i]? = some o → dstOK C.N o.dst := by
    intro i o hi
    have := List.all_eq_true.1 hN o (List.mem_of_getElem? (i := i) (by simpa using hi))
    unfold dstOK
    cases hdd : o.dst with
    | none => trivial
    | some d => rw [hdd] at this; simpa using this
  have hops : opsAt ops (List.range ops.size) = ops.toList := by
    unfold opsAt
    have : ∀ (n : Nat), n ≤ ops.size → (List.range n).filterMap (ops[·]?) = ops.toList.take n := by
      intro n
      induction n with
      | zero => simp
      | succ n ih =>
        intro hn
        rw [List.range_succ, List.filterMap_append, ih (by omega), List.take_add_one]
        congr 1
        have : ops[n]? = some ops[n] := Array.getElem?_eq_getElem (by omega)
        simp [this]
    rw [this ops.size (Nat.le_refl _), List.take_of_length_le (by simp)]
  refine evD_any (Q := fun e a' w' => ∃ s' ι', Q e s' ∧ Inv C ι' s' a' w') hB hN' _ (fun t h n ι' a' w' hk I' => ⟨_, ι', hk, I'⟩) ops.size (List.range ops.size) (Array.replicate ops.size false) s.t s.h s.n ι a { w with drawn := w.drawn + 1 }
    (by simp) (by simp) List.pairwise_lt_range (fun i => ?_) (fun k ok hk hl => ?_) I.drew hs (by rw [hops]; exact e)
  · simp only [List.mem_range]
    constructor
    · intro hi; exact ⟨hi, by simp [Array.getD, hi]⟩
    · intro hi; exact hi.1
  · have hlt : k < ops.size := (Array.getElem?_eq_some_iff.1 hk).1
    simp [Array.getD, hlt] at hl

theorem AWP.regionDL {Q : Exit → St → Prop} {s : St} {id : Nat} (hm : P.follows .mixedOrders = true) (hB : drawB S ops = true) (hLB : lastB ops = true) (hN : dstsB C.N ops.toList = true) (hs : Sub hS s.h)
    (e : evD P C S V hS ops ops.toList.dropLast s.t s.h s.n (lastK P C ops fun t h n => Q .normal ⟨t, h, n⟩)) (hr : C.x.rd = none := by rfl) : AWP P C (.region id ops true) Q s := by
  refine AWP.of_wp hr (fun a w ι I => ?_)
  refine wp_region_any hm ?_
  have hpos : 0 < ops.size := by unfold lastB at hLB; simp only [Bool.and_eq_true, decide_eq_true_eq] at hLB; exact hLB.1
  have hN' : ∀ (i : Nat) (o : Oper), ops[i]? = some o → dstOK C.N o.dst := by
    intro i o hi
    have := List.all_eq_true.1 hN o (List.mem_of_getElem? (i := i) (by simpa using hi))
    unfold dstOK
    cases hdd : o.dst with
    | none => trivial
    | some d => rw [hdd] at this; simpa using this
  have hops : opsAt ops (List.range (ops.size - 1)) = ops.toList.dropLast := by
    unfold opsAt
    have : ∀ (n : Nat), n ≤ ops.size → (List.range n).filterMap (ops[·]?) = ops.toList.take n := by
      intro n
      induction n with
      | zero => simp
      | succ n ih =>
        intro hn
        rw [List.range_succ, List.filterMap_append, ih (by omega), List.take_add_one]
        congr 1
        have : ops[n]? = some ops[n] := Array.getElem?_eq_getElem (by omega)
        simp [this]
    rw [this (ops.size - 1) (by omega), List.dropLast_eq_take]
    simp
  have := evD_anyL (Q := fun e a' w' => ∃ s' ι', Q e s' ∧ Inv C ι' s' a' w') hLB hB hN' (fun t h n => Q .normal ⟨t, h, n⟩) (fun t h n ι' a' w' hk I' => ⟨_, ι', hk, I'⟩) (ops.size - 1) (List.range (ops.size - 1)) (Array.replicate ops.size false) s.t s.h s.n ι a { w with drawn := w.drawn + 1 }
    (by simp) (by simp) List.pairwise_lt_range (fun i => by
      simp only [List.mem_append, List.mem_range, List.mem_singleton]
      constructor
      · intro hi; exact ⟨by omega, by simp [Array.getD, show i < ops.size by omega]⟩
      · intro hi; omega) (fun i hi => by simpa using hi) (fun k ok hk hl => by
      have hlt : k < ops.size := (Array.getElem?_eq_some_iff.1 hk).1
      simp [Array.getD, hlt] at hl) I.drew hs (by rw [hops]; exact e)
  rw [show ops.size - 1 + 1 = ops.size by omega] at this
  exact this

end

end Go.Proofs.YtengjcdilnikhaaDoor.Am
