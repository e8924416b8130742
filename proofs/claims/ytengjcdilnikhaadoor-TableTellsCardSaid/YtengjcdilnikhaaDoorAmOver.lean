/-
  The abstract machine: slices.overlaps of an own row and a row that is read only; nil and own rows taken as read only; a row that goes to a new place as a body ends.
-/
import Derived.Test.YtengjcdilnikhaaDoorAmKeep
import Derived.Lib.Overlaps
namespace Go.Proofs.YtengjcdilnikhaaDoor.Am
set_option linter.unusedSimpArgs false
set_option linter.unusedVariables false
set_option linter.unnecessarySimpa false
open Go

/-- own rows, or nil, taken as read-only from now on -/
theorem AWP.frzNil {P : Program} {C : Ctx} {Q : Exit → St → Prop} {c : Code} {t : Nat → AV} {h : Heap} {n : Nat} (i sz : Nat) (e : t i = .one (.p (.v (.slice none 0 0))))
    (k : AWP P C c Q ⟨updT t i (.one (.p (.sl sz []))), h, n⟩) : AWP P C c Q ⟨t, h, n⟩ := by
  refine .weak (fun a w ι I => ⟨ι, ?_⟩) k
  refine ⟨I.outer, I.fresh, I.bound, I.heap, fun j => ?_, I.ntmps, I.defers, I.keeps⟩
  show RAV ι h (C.b + n) w (updT t i (.one (.p (.sl sz []))) j) (a.tmps.getD j undef)
  by_cases hj : j = i
  · subst hj
    rw [updT_same]
    have hr : RAV ι h (C.b + n) w (t j) (a.tmps.getD j undef) := I.tmps j
    rw [e] at hr
    rw [rav_v_inv hr]
    exact .one (.p (RPD.sl (sz := sz) (es := []) none 0 (fun _ _ => undef) (Nat.le_refl _) (fun _ => rfl) (fun _ e => by cases e) (fun _ e => by cases e) (fun _ _ e => by simp at e) (fun _ _ e => by simp at e)))
  · rw [updT_ne _ _ _ _ hj]; exact I.tmps j

def delH (h : Heap) (id : Nat) : Heap := fun i => if i = id then none else h i
theorem delH_same (h : Heap) (id : Nat) : delH h id id = none := by simp [delH]
theorem delH_ne (h : Heap) (id i : Nat) (e : i ≠ id) : delH h id i = h i := by simp [delH, e]
theorem delH_lit (h : Heap) (id i : Nat) : delH h id i = if i = id then none else h i := rfl

theorem delH_some {h : Heap} {id i : Nat} {b : Blk} (e : delH h id i = some b) : i ≠ id ∧ h i = some b := by
  unfold delH at e
  split at e
  · cases e
  · exact ⟨by assumption, e⟩

/-- a block is let go -/
theorem Inv.del {C : Ctx} {ι : Nat → Nat} {t : Nat → AV} {h : Heap} {n : Nat} {a : Act} {w : World} (I : Inv C ι ⟨t, h, n⟩ a w) (id : Nat) : Inv C ι ⟨t, delH h id, n⟩ a w := by
  have l : ∀ i b, delH h id i = some b → h i = some b := fun i b e => (delH_some e).2
  have M : Moves ι h (C.b + n) w ι (delH h id) (C.b + n) w := .less l
  refine ⟨fun i hi b e => I.outer i hi b (l i b e), fun i hi b e ne => I.fresh i hi b (l i b e) ne, fun i hi => ?_, I.heap.less l, fun j => (I.tmps j).move M, I.ntmps, I.defers, I.keeps⟩
  show delH h id i = none
  unfold delH
  split
  · rfl
  · exact I.bound i hi

/-- a row whose block is let go is read only -/
theorem frz_row {ι : Nat → Nat} {h : Heap} {bd bd' : Nat} {w : World} {id ver off len cap sz : Nat} {es : List (List PD)} {blk : Blk} {v : Value} (H : HeapOK ι h bd w) (r : RCell ι h bd w (.win id ver off len cap) v) (hblk : h id = some blk) (hver : blk.ver = ver)
    (hlen : es.length = len) (hsz : ∀ e ∈ es, e.length = sz) (hcells : ∀ (i : Nat) (e : List PD), es[i]? = some e → ∀ (j : Nat) (x : PD), e[j]? = some x → blk.cells[off + (i * sz + j)]? = some (.p x)) :
    RCell ι (delH h id) bd' w (.p (.sl sz es)) v := by
  have hst : ∀ x, stab ι h x → stab ι (delH h id) x := fun x s i b e ne => s i b (delH_some e).2 ne
  cases r with
  | win hid hver' hv =>
    obtain ⟨hlc, hX⟩ := hv blk hblk hver
    rcases hX with rfl | ⟨rfl, rfl, rfl⟩
    · by_cases hne : blk.cells = []
      · have := RPD.sl (S := stab ι (delH h id)) (w := w) (sz := sz) (es := es) (some ⟨ι id, off, none⟩) cap (fun _ _ => undef) (by omega) (fun hn => by cases hn) (fun A hA => by injection hA with hA; subst hA; exact .inr rfl) hsz
          (fun i e he j x hx => by have := hcells i e he j x hx; rw [hne] at this; simp at this) (fun i e he j x hx => by have := hcells i e he j x hx; rw [hne] at this; simp at this)
        rw [hlen] at this
        exact .p this
      · obtain ⟨c, ty, g1, g2, g3⟩ := H.blk id blk hblk hne
        have hself : stab ι (delH h id) (ι id) := by
          intro i b e ne heq
          obtain ⟨hi, e'⟩ := delH_some e
          exact hi (H.inj i id b blk e' hblk ne hne heq)
        have := RPD.sl (S := stab ι (delH h id)) (w := w) (sz := sz) (es := es) (some ⟨ι id, off, none⟩) cap (fun i j => c.getD (off + (i * sz + j)) undef) (by omega) (fun hn => by cases hn) (fun A hA => by injection hA with hA; subst hA; exact .inr rfl) hsz
          (fun i e he j x hx => by
            have hx' := hcells i e he j x hx
            have hlt : off + (i * sz + j) < c.size := by rw [g2]; exact (List.getElem?_eq_some_iff.1 hx').1
            refine ⟨_, rfl, hself, ?_⟩
            simp [World.cell?, g1, Array.getD, hlt])
          (fun i e he j x hx => by
            have hx' := hcells i e he j x hx
            have hlt : off + (i * sz + j) < c.size := by rw [g2]; exact (List.getElem?_eq_some_iff.1 hx').1
            have hr := g3 _ _ _ hx' (Array.getElem?_eq_getElem hlt)
            cases hr with
            | p hd =>
              have e1 : c.getD (off + (i * sz + j)) undef = c[off + (i * sz + j)] := by simp [Array.getD, hlt]
              rw [e1]
              exact hd.mono (fun x s _ => hst x s) (fun _ _ _ => rfl))
        rw [hlen] at this
        exact .p this
    · have hes : es = [] := List.eq_nil_of_length_eq_zero hlen
      subst hes
      have := RPD.sl (S := stab ι (delH h id)) (w := w) (sz := sz) (es := []) none 0 (fun _ _ => undef) (Nat.le_refl _) (fun _ => rfl) (fun _ e => by cases e) (fun _ e => by cases e) (fun _ _ e => by simp at e) (fun _ _ e => by simp at e)
      exact .p this

/-- an own row in a temporary is read only from now on -/
theorem AWP.frz {P : Program} {C : Ctx} {Q : Exit → St → Prop} {c : Code} {t : Nat → AV} {h : Heap} {n : Nat} (i : Nat) {id ver off len cap : Nat} {blk : Blk} (sz : Nat) (es : List (List PD)) (e : t i = .one (.win id ver off len cap)) (hblk : h id = some blk) (hver : blk.ver = ver)
    (hlen : es.length = len) (hsz : ∀ e ∈ es, e.length = sz) (hcells : ∀ (i : Nat) (e : List PD), es[i]? = some e → ∀ (j : Nat) (x : PD), e[j]? = some x → blk.cells[off + (i * sz + j)]? = some (.p x))
    (k : AWP P C c Q ⟨updT t i (.one (.p (.sl sz es))), delH h id, n⟩) : AWP P C c Q ⟨t, h, n⟩ := by
  refine .weak (fun a w ι I => ⟨ι, ?_⟩) k
  have I' := I.del id
  refine ⟨I'.outer, I'.fresh, I'.bound, I'.heap, fun j => ?_, I'.ntmps, I'.defers, I'.keeps⟩
  show RAV ι (delH h id) (C.b + n) w (updT t i (.one (.p (.sl sz es))) j) (a.tmps.getD j undef)
  by_cases hj : j = i
  · subst hj
    rw [updT_same]
    have hr : RAV ι h (C.b + n) w (t j) (a.tmps.getD j undef) := I.tmps j
    rw [e] at hr
    cases hr with
    | one hc => exact .one (frz_row I.heap hc hblk hver hlen hsz hcells)
  · rw [updT_ne _ _ _ _ hj]; exact I'.tmps j

/-- pure cells hold wherever what is stable stays so -/
theorem RCell.pure0 {ι ι' : Nat → Nat} {h h' : Heap} {bd bd' : Nat} {w : World} (hst : ∀ x, stab ι h x → stab ι' h' x) {c : Cell} {u : Value} (r : RCell ι h bd w c u) (hl : lowC 0 c = true) : RCell ι' h' bd' w c u := by
  induction r with
  | p hd => exact .p (hd.mono (fun x s _ => hst x s) (fun _ _ _ => rfl))
  | junk v => exact .junk v
  | ptr | win => simp [lowC] at hl
  | @ro cs A U hs hc =>
    refine .ro A U hs (fun j d hd => ?_)
    obtain ⟨h1, h2, h3⟩ := hc j d hd
    exact ⟨hst _ h1, h2, h3.mono (fun x s _ => hst x s) (fun _ _ _ => rfl)⟩
  | clo F C' hF hC h1 h2 ih1 ih2 =>
    simp only [lowC, Bool.and_eq_true] at hl
    exact .clo F C' hF hC (fun i c u hc hu => ih1 i c u hc hu (lowCs_mem hl.1 c (List.mem_of_getElem? hc))) (fun i c u hc hu => ih2 i c u hc hu (lowCs_mem hl.2 c (List.mem_of_getElem? hc)))

/-- cells of outer blocks, when one of these went -/
theorem RCell.gone {ι ι0 ι' : Nat → Nat} {h h0 : Heap} {bd b : Nat} {w w0 : World} {id nv : Nat} {b0 : Blk} {cs : List Cell} (hst : ∀ x, stab ι h x → stab ι' (upd h0 id ⟨nv, cs⟩) x) (hb0 : h0 id = some b0) (hnv : b0.ver < nv)
    (he : ∀ i, i < b → i ≠ id → h i = h0 i ∧ ι' i = ι i) {c : Cell} {u : Value} (r : RCell ι h bd w c u) : ∀ {u0 : Value}, RCell ι0 h0 b w0 c u0 → RCell ι' (upd h0 id ⟨nv, cs⟩) b w c u := by
  induction r with
  | p hd => intro _ _; exact .p (hd.mono (fun x s _ => hst x s) (fun _ _ _ => rfl))
  | junk v => intro _ _; exact .junk v
  | @ptr i1 ver off v hid hver hv =>
    intro u0 r0
    cases r0 with
    | ptr hid0 hver0 hv0 =>
      by_cases hi : i1 = id
      · subst hi
        have := hver0 b0 hb0
        exact .ptr hid0 (fun blk e => by rw [upd_same] at e; injection e with e; subst e; show ver ≤ nv; omega) (fun blk e ev => by rw [upd_same] at e; injection e with e; subst e; have ev' : nv = ver := ev; omega)
      · obtain ⟨e1, e2⟩ := he i1 hid0 hi
        exact .ptr hid0 (fun blk e => by rw [upd_ne _ _ _ _ hi] at e; exact hver blk (by rw [e1]; exact e)) (fun blk e => by rw [upd_ne _ _ _ _ hi] at e; rw [e2]; exact hv blk (by rw [e1]; exact e))
  | @ro cs' A U hs hc =>
    intro _ _
    refine .ro A U hs (fun j d hd => ?_)
    obtain ⟨h1, h2, h3⟩ := hc j d hd
    exact ⟨hst _ h1, h2, h3.mono (fun x s _ => hst x s) (fun _ _ _ => rfl)⟩
  | @win i1 ver off len cap v hid hver hv =>
    intro u0 r0
    cases r0 with
    | win hid0 hver0 hv0 =>
      by_cases hi : i1 = id
      · subst hi
        have := hver0 b0 hb0
        exact .win hid0 (fun blk e => by rw [upd_same] at e; injection e with e; subst e; show ver ≤ nv; omega) (fun blk e ev => by rw [upd_same] at e; injection e with e; subst e; have ev' : nv = ver := ev; omega)
      · obtain ⟨e1, e2⟩ := he i1 hid0 hi
        exact .win hid0 (fun blk e => by rw [upd_ne _ _ _ _ hi] at e; exact hver blk (by rw [e1]; exact e)) (fun blk e => by rw [upd_ne _ _ _ _ hi] at e; rw [e2]; exact hv blk (by rw [e1]; exact e))
  | clo F C' hF hC h1 h2 ih1 ih2 =>
    intro u0 r0
    cases r0 with
    | clo F0 C0 hF0 hC0 g1 g2 =>
      exact .clo F C' hF hC
        (fun i c u hc hu => by
          have hlt : i < F0.length := by rw [hF0]; exact (List.getElem?_eq_some_iff.1 hc).1
          exact ih1 i c u hc hu (g1 i c _ hc (List.getElem?_eq_getElem hlt)))
        (fun i c u hc hu => by
          have hlt : i < C0.length := by rw [hC0]; exact (List.getElem?_eq_some_iff.1 hc).1
          exact ih2 i c u hc hu (g2 i c _ hc (List.getElem?_eq_getElem hlt)))

/-- a body ends; one of the outer blocks is now what was a block of its own -/
theorem Ends.move {P : Program} {C : Ctx} {fn : Func} {R : AV → Heap → Prop} {s : St} {id id' : Nat} {blk b0 : Blk} (hn : ∀ id, C.b ≤ id → C.h id = none) (H : HeapOK C.ι C.h C.b C.w) (hid : id < C.b) (hb0 : C.h id = some b0) {ver off len cap : Nat}
    (he : ∀ i, i < C.b → i ≠ id → s.h i = C.h i) (hid' : C.b ≤ id') (hb : s.h id' = some blk) (hver : blk.ver = ver) (hlow : lowCs 0 blk.cells = true)
    (hr : resA P s.h s.t fn.results.toList = some (.one (.win id' ver off len cap))) (hR : R (.one (.win id (b0.ver + 1) off len cap)) (upd C.h id ⟨b0.ver + 1, blk.cells⟩)) : Ends P C fn 0 R s := by
  intro a w ι I
  obtain ⟨v, h1, h2⟩ := res_ok (P := P) I hr
  have hlt : ∀ i b, C.h i = some b → i < C.b := fun i b e => by
    rcases Nat.lt_or_ge i C.b with hl | hl
    · exact hl
    · rw [hn i hl] at e; cases e
  have hst : ∀ x, stab ι s.h x → stab (ren ι id (ι id')) (upd C.h id ⟨b0.ver + 1, blk.cells⟩) x := by
    intro x st i b e ne
    by_cases h : i = id
    · subst h
      rw [upd_same] at e; injection e with e; subst e
      rw [ren_same]
      exact st id' blk hb ne
    · rw [upd_ne _ _ _ _ h] at e
      rw [ren_ne _ _ _ _ h]
      exact st i b (by rw [he i (hlt i b e) h]; exact e) ne
  refine ⟨v, _, _, ren ι id (ι id'), h1, hR, ⟨fun i hi b' e => ?_, fun i hi b' e ne => ?_, fun i hi => ?_, ⟨fun i b e ne => ?_, fun i j bi bj hi hj ni nj heq => ?_⟩, I.keeps⟩, ?_⟩
  · by_cases h : i = id
    · subst h
      rw [upd_same] at e; injection e with e; subst e
      rw [ren_same]
      exact ⟨b0, hb0, Nat.le_succ _, .inr ⟨Nat.lt_succ_self _, fun ne => I.fresh id' hid' blk hb ne⟩⟩
    · rw [upd_ne _ _ _ _ h] at e
      rw [ren_ne _ _ _ _ h]
      exact I.outer i hi b' (by rw [he i hi h]; exact e)
  · rw [upd_ne _ _ _ _ (by omega), hn i hi] at e; cases e
  · rw [upd_ne _ _ _ _ (by omega)]; exact hn i (by omega)
  · by_cases h : i = id
    · subst h
      rw [upd_same] at e; injection e with e; subst e
      rw [ren_same]
      obtain ⟨c, ty, g1, g2, g3⟩ := I.heap.blk id' blk hb ne
      exact ⟨c, ty, g1, g2, fun j d u hd hu => (g3 j d u hd hu).pure0 hst (lowCs_mem hlow d (List.mem_of_getElem? hd))⟩
    · rw [upd_ne _ _ _ _ h] at e
      rw [ren_ne _ _ _ _ h]
      obtain ⟨c, ty, g1, g2, g3⟩ := I.heap.blk i b (by rw [he i (hlt i b e) h]; exact e) ne
      obtain ⟨c0, ty0, k1, k2, k3⟩ := H.blk i b e ne
      refine ⟨c, ty, g1, g2, fun j d u hd hu => ?_⟩
      have hj : j < c0.size := by rw [k2]; exact (List.getElem?_eq_some_iff.1 hd).1
      exact (g3 j d u hd hu).gone hst hb0 (Nat.lt_succ_self _) (fun i hi h => ⟨he i hi h, ren_ne _ _ _ _ h⟩) (k3 j d _ hd (Array.getElem?_eq_getElem hj))
  · by_cases hi1 : i = id
    · by_cases hj1 : j = id
      · rw [hi1, hj1]
      · subst hi1
        rw [upd_same] at hi; injection hi with hi; subst hi
        rw [upd_ne _ _ _ _ hj1] at hj
        rw [ren_same, ren_ne _ _ _ _ hj1] at heq
        have := I.heap.inj id' j blk bj hb (by rw [he j (hlt j bj hj) hj1]; exact hj) ni nj heq
        have := hlt j bj hj
        omega
    · rw [upd_ne _ _ _ _ hi1] at hi
      rw [ren_ne _ _ _ _ hi1] at heq
      by_cases hj1 : j = id
      · subst hj1
        rw [upd_same] at hj; injection hj with hj; subst hj
        rw [ren_same] at heq
        have := I.heap.inj i id' bi blk (by rw [he i (hlt i bi hi) hi1]; exact hi) hb ni nj heq
        have := hlt i bi hi
        omega
      · rw [upd_ne _ _ _ _ hj1] at hj
        rw [ren_ne _ _ _ _ hj1] at heq
        exact I.heap.inj i j bi bj (by rw [he i (hlt i bi hi) hi1]; exact hi) (by rw [he j (hlt j bj hj) hj1]; exact hj) ni nj heq
  · cases h2 with
    | one hc => cases hc with
      | win hid1 hver1 hv1 =>
        refine .one (.win (by omega) (fun b e => ?_) (fun b e _ => ?_))
        · rw [upd_same] at e; injection e with e; subst e; exact Nat.le_refl _
        · rw [ren_same]; exact hv1 blk hb hver

theorem cell_shape {w : World} {b off : Nat} {v : Value} (e : w.cell? ⟨b, off, none⟩ = some v) : ∃ t k, w.shape? b = some (t, k) ∧ k ≠ 0 := by
  unfold World.cell? at e
  unfold World.shape?
  simp only at e ⊢
  split at e
  · rename_i c el fz hc
    refine ⟨el, c.size, rfl, ?_⟩
    simp only [Option.isSome_none, Bool.false_eq_true, if_false] at e
    have := (Array.getElem?_eq_some_iff.1 e).1
    omega
  · cases e

theorem own_shape {w : World} {b : Nat} {c : Array Value} {ty : TypeId} (e : w.heap[b]? = some (.cells c ty (0, 0))) : w.shape? b = some (ty, c.size) ∧ ∀ a : Addr, a.block = b → w.frozen? a = false := by
  refine ⟨by simp [World.shape?, e], fun a h => ?_⟩
  subst h
  simp [World.frozen?, e]

/-- the model's overlaps, one of the two no frozen memory -/
theorem run_over {P : Program} (w : World) (tS tR e : TypeId) (ht : P.underlying tS = some (.slice e)) (size : Nat) (hz : ∀ w, (Go.sizeOf e).run P w = .ok size w) (a b : Addr) (la ca lb cb : Nat)
    (h : (la = 0 ∨ lb = 0 ∨ size = 0) ∨ (a.block ≠ b.block ∧ ∃ tA kA tB kB, w.shape? a.block = some (tA, kA) ∧ w.shape? b.block = some (tB, kB) ∧ kA ≠ 0 ∧ kB ≠ 0 ∧
      ((w.frozen? a = false ∧ w.frozen? ⟨a.block, kA, none⟩ = false) ∨ (w.frozen? b = false ∧ w.frozen? ⟨b.block, kB, none⟩ = false)))) :
    (Extern.SlicesOverlaps.overlaps #[tS, tS] #[tR] #[.slice (some a) la ca, .slice (some b) lb cb]).run P w = .ok (.bool false) w := by
  delta Extern.SlicesOverlaps.overlaps Extern.SlicesOverlaps.overlaps.match_4
  simp only [Array.getLit, List.size_toArray, List.length_cons, List.length_nil, Nat.reduceAdd, dite_true, List.getElem_toArray, List.getElem_cons_zero, List.getElem_cons_succ, Extern.SlicesOverlaps.overlaps._sparseCasesOn_4]
  by_cases h0 : la = 0 ∨ lb = 0 ∨ size = 0
  · simp [run_underlying ht, hz, h0]
  · rcases h with h | ⟨hne, tA, kA, tB, kB, hsa, hsb, ka, kb, hf⟩
    · exact absurd h h0
    · have hnb : (a.block != b.block) = true := by simpa using hne
      have hnb' : (a.block == b.block) = false := by simpa using hne
      cases kA with
      | zero => exact absurd rfl ka
      | succ kA =>
        cases kB with
        | zero => exact absurd rfl kb
        | succ kB =>
          rcases hf with ⟨f1, f2⟩ | ⟨f1, f2⟩
          · simp [run_underlying ht, hz, h0, hnb, hnb', frozen, noView, viewAt, mayBeOne, stringish, shape, Sem.run, hsa, hsb, f1, f2]
          · cases hfa : w.frozen? a <;> cases hfk : w.frozen? ⟨a.block, kA + 1, none⟩ <;>
              simp [run_underlying ht, hz, h0, hnb, hnb', frozen, noView, viewAt, mayBeOne, stringish, shape, Sem.run, hsa, hsb, f1, f2, hfa, hfk]

theorem run_over_nil {P : Program} (w : World) (tS tR e : TypeId) (ht : P.underlying tS = some (.slice e)) (size : Nat) (hz : ∀ w, (Go.sizeOf e).run P w = .ok size w) (a b : Option Addr) (la ca lb cb : Nat) (h : a = none ∨ b = none) :
    (Extern.SlicesOverlaps.overlaps #[tS, tS] #[tR] #[.slice a la ca, .slice b lb cb]).run P w = .ok (.bool false) w := by
  delta Extern.SlicesOverlaps.overlaps Extern.SlicesOverlaps.overlaps.match_4
  simp only [Array.getLit, List.size_toArray, List.length_cons, List.length_nil, Nat.reduceAdd, dite_true, List.getElem_toArray, List.getElem_cons_zero, List.getElem_cons_succ, Extern.SlicesOverlaps.overlaps._sparseCasesOn_4]
  rcases h with rfl | rfl
  · simp [run_underlying ht, hz]
  · cases a <;> simp [run_underlying ht, hz]

/-- slices.overlaps is what the model has of it -/
def isOver (P : Program) (g : FuncId) (tS tR : TypeId) : Prop :=
  ∀ (args : Array Value) (w : World), (callFunc g args).run P w = ((Extern.SlicesOverlaps.overlaps #[tS, tS] #[tR] args).run P w).andThen fun v w' => .ok (.value v) w'

theorem over_ws {P : Program} {C : Ctx} {g : FuncId} {tS tR e : TypeId} {size id ver off len cap sz : Nat} {es : List (List PD)} {h : Heap} {n : Nat} {K : KT} (ho : isOver P g tS tR) (ht : slE P tS = some e) (hs : tsz P e = some size) (hsz : size = sz)
    (hl : liveB h id ver = true) (hne : ∀ blk, h id = some blk → blk.cells = [] → len = 0) (k : K (.one (.p (.v (.bool false)))) h n) : ExtK P C g [.one (.win id ver off len cap), .one (.p (.sl sz es))] h n K := by
  intro a w ι Vs I hVs
  obtain ⟨hlen, hVs⟩ := hVs
  match Vs, hlen with
  | [X, Y], _ =>
    have rX := hVs 0 _ X rfl rfl
    have rY := hVs 1 _ Y rfl rfl
    obtain ⟨hlc, hX⟩ := win_inv rX hl
    obtain ⟨A, cap', U, rfl, g1, g2, g3, g4, g5, g6⟩ := sl_inv rY
    refine ⟨.bool false, w, _, h, n, ι, ?_, k, I, rav_v _, .refl _ _ _ _⟩
    rw [ho]
    have hrun : (Extern.SlicesOverlaps.overlaps #[tS, tS] #[tR] #[X, .slice A es.length cap']).run P w = .ok (.bool false) w := by
      rcases hX with rfl | ⟨rfl, rfl, rfl⟩
      · cases A with
        | none => exact run_over_nil w tS tR e (slE_run ht) size (fun w => tsz_run hs) _ _ _ _ _ _ (.inr rfl)
        | some A =>
          refine run_over w tS tR e (slE_run ht) size (fun w => tsz_run hs) _ _ _ _ _ _ ?_
          by_cases h0 : len = 0 ∨ es.length = 0 ∨ size = 0
          · exact .inl h0
          · refine .inr ?_
            obtain ⟨blk, hb, hv⟩ := live_run hl
            have hbn : blk.cells ≠ [] := fun hh => h0 (.inl (hne blk hb hh))
            obtain ⟨c, ty, k1, k2, k3⟩ := I.heap.blk id blk hb hbn
            have he : es[0]? = some es[0] := List.getElem?_eq_getElem (by omega)
            have hel := g4 es[0] (List.getElem_mem (by omega))
            have hd : es[0][0]? = some (es[0][0]'(by omega)) := List.getElem?_eq_getElem (by omega)
            obtain ⟨A', hA', hst, hcell⟩ := g5 0 _ he 0 _ hd
            injection hA' with hA'; subst hA'
            obtain ⟨tB, kB, s1, s2⟩ := cell_shape hcell
            obtain ⟨o1, o2⟩ := own_shape k1
            have hcs : c.size ≠ 0 := by rw [k2]; intro hh; exact hbn (List.eq_nil_of_length_eq_zero hh)
            exact ⟨fun hh => hst id blk hb hbn hh, ty, c.size, tB, kB, o1, s1, hcs, s2, .inl ⟨o2 _ rfl, o2 _ rfl⟩⟩
      · exact run_over_nil w tS tR e (slE_run ht) size (fun w => tsz_run hs) _ _ _ _ _ _ (.inl rfl)
    rw [hrun]
    rfl

theorem over_sw {P : Program} {C : Ctx} {g : FuncId} {tS tR e : TypeId} {size id ver off len cap sz : Nat} {es : List (List PD)} {h : Heap} {n : Nat} {K : KT} (ho : isOver P g tS tR) (ht : slE P tS = some e) (hs : tsz P e = some size) (hsz : size = sz)
    (hl : liveB h id ver = true) (hne : ∀ blk, h id = some blk → blk.cells = [] → len = 0) (k : K (.one (.p (.v (.bool false)))) h n) : ExtK P C g [.one (.p (.sl sz es)), .one (.win id ver off len cap)] h n K := by
  intro a w ι Vs I hVs
  obtain ⟨hlen, hVs⟩ := hVs
  match Vs, hlen with
  | [Y, X], _ =>
    have rX := hVs 1 _ X rfl rfl
    have rY := hVs 0 _ Y rfl rfl
    obtain ⟨hlc, hX⟩ := win_inv rX hl
    obtain ⟨A, cap', U, rfl, g1, g2, g3, g4, g5, g6⟩ := sl_inv rY
    refine ⟨.bool false, w, _, h, n, ι, ?_, k, I, rav_v _, .refl _ _ _ _⟩
    rw [ho]
    have hrun : (Extern.SlicesOverlaps.overlaps #[tS, tS] #[tR] #[.slice A es.length cap', X]).run P w = .ok (.bool false) w := by
      rcases hX with rfl | ⟨rfl, rfl, rfl⟩
      · cases A with
        | none => exact run_over_nil w tS tR e (slE_run ht) size (fun w => tsz_run hs) _ _ _ _ _ _ (.inl rfl)
        | some A =>
          refine run_over w tS tR e (slE_run ht) size (fun w => tsz_run hs) _ _ _ _ _ _ ?_
          by_cases h0 : es.length = 0 ∨ len = 0 ∨ size = 0
          · exact .inl h0
          · refine .inr ?_
            obtain ⟨blk, hb, hv⟩ := live_run hl
            have hbn : blk.cells ≠ [] := fun hh => h0 (.inr (.inl (hne blk hb hh)))
            obtain ⟨c, ty, k1, k2, k3⟩ := I.heap.blk id blk hb hbn
            have he : es[0]? = some es[0] := List.getElem?_eq_getElem (by omega)
            have hel := g4 es[0] (List.getElem_mem (by omega))
            have hd : es[0][0]? = some (es[0][0]'(by omega)) := List.getElem?_eq_getElem (by omega)
            obtain ⟨A', hA', hst, hcell⟩ := g5 0 _ he 0 _ hd
            injection hA' with hA'; subst hA'
            obtain ⟨tB, kB, s1, s2⟩ := cell_shape hcell
            obtain ⟨o1, o2⟩ := own_shape k1
            have hcs : c.size ≠ 0 := by rw [k2]; intro hh; exact hbn (List.eq_nil_of_length_eq_zero hh)
            exact ⟨fun hh => hst id blk hb hbn hh.symm, tB, kB, ty, c.size, s1, o1, s2, hcs, .inr ⟨o2 _ rfl, o2 _ rfl⟩⟩
      · exact run_over_nil w tS tR e (slE_run ht) size (fun w => tsz_run hs) _ _ _ _ _ _ (.inr rfl)
    rw [hrun]
    rfl

theorem CallR.ext {P : Program} {C : Ctx} {E : Exit → St → Prop} {g : FuncId} {args : List AV} {dst : Option Tmp} {os : List Oper} {pre : List (Option Tmp)} {t : Nat → AV} {h : Heap} {n : Nat} {K : FinT}
    (k : ExtK P C g args h n fun v h' n' => evOps P C E os (pre ++ [dst]) (putT t dst v) h' n' K) : CallR P C E g args dst os pre t h n K := .inr (.inl k)

end Go.Proofs.YtengjcdilnikhaaDoor.Am
