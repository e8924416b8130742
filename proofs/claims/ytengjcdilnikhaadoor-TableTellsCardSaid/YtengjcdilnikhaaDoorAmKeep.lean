/-
  The abstract machine: a body ends, and some of its own blocks live on; contracts with own rows made read-only; own rows lent to who only reads.
-/
import Derived.Test.YtengjcdilnikhaaDoorAmRow
namespace Go.Proofs.YtengjcdilnikhaaDoor.Am
set_option linter.unusedSimpArgs false
set_option linter.unusedVariables false
set_option linter.unnecessarySimpa false
open Go

/-- what becomes of a cell as a body ends whose blocks L live on -/
def renC (h : Heap) (b : Nat) (L : List (Nat × List Cell)) (c d : Cell) : Prop :=
  (c = d ∧ lowC b c = true) ∨ (∃ sz, c = .p (.v (.slice none 0 0)) ∧ d = .p (.sl sz [])) ∨
  (∃ id ver off len cap sz es blk, c = .win id ver off len cap ∧ d = .p (.sl sz es) ∧ b ≤ id ∧ (∀ (k : Nat) (ds : List Cell), L[k]? ≠ some (id, ds)) ∧ h id = some blk ∧ blk.ver = ver ∧ es.length = len ∧
    (∀ e ∈ es, e.length = sz) ∧ (∀ (i : Nat) (e : List PD), es[i]? = some e → ∀ (j : Nat) (x : PD), e[j]? = some x → blk.cells[off + (i * sz + j)]? = some (.p x))) ∨
  (∃ (k id : Nat) (ds : List Cell) (ver off len cap : Nat), L[k]? = some (id, ds) ∧ c = .win id ver off len cap ∧ d = .win (b + k) ver off len cap) ∨
  (∃ (k id : Nat) (ds : List Cell) (ver off : Nat), L[k]? = some (id, ds) ∧ c = .ptr id ver off ∧ d = .ptr (b + k) ver off)

inductive renV (h : Heap) (b : Nat) (L : List (Nat × List Cell)) : AV → AV → Prop
  | one {c d : Cell} (hc : renC h b L c d) : renV h b L (.one c) (.one d)
  | agg {cs ds : List Cell} (hl : ds.length = cs.length) (hc : ∀ (i : Nat) (c d : Cell), cs[i]? = some c → ds[i]? = some d → renC h b L c d) : renV h b L (.agg cs) (.agg ds)
  | tup {cs ds : List AV} (hl : ds.length = cs.length) (hc : ∀ (i : Nat) (c d : AV), cs[i]? = some c → ds[i]? = some d → renV h b L c d) : renV h b L (.tup cs) (.tup ds)

structure KeepOK (h : Heap) (b : Nat) (L : List (Nat × List Cell)) : Prop where
  own : ∀ (k id : Nat) (ds : List Cell), L[k]? = some (id, ds) → b ≤ id ∧ ∃ blk, h id = some blk ∧ ds.length = blk.cells.length ∧ (∀ (i : Nat) (c d : Cell), blk.cells[i]? = some c → ds[i]? = some d → renC h b L c d)
  nd : ∀ (k k' id : Nat) (ds ds' : List Cell), L[k]? = some (id, ds) → L[k']? = some (id, ds') → k = k'
  low : ∀ id, id < b → ∀ blk, h id = some blk → ∀ c ∈ blk.cells, lowC b c = true

def keepH (b : Nat) (h : Heap) (L : List (Nat × List Cell)) : Heap := fun i =>
  if i < b then h i else match L[i - b]? with
    | some x => (h x.1).map fun blk => ⟨blk.ver, x.2⟩
    | none => none

def keepI (b : Nat) (ι : Nat → Nat) (L : List (Nat × List Cell)) : Nat → Nat := fun i =>
  if i < b then ι i else match L[i - b]? with
    | some x => ι x.1
    | none => 0

/-- where a kept block comes from -/
theorem keep_from {b : Nat} {h : Heap} {L : List (Nat × List Cell)} {ι : Nat → Nat} {i : Nat} {blk : Blk} (o : KeepOK h b L) (e : keepH b h L i = some blk) :
    ∃ j b0, h j = some b0 ∧ b0.ver = blk.ver ∧ b0.cells.length = blk.cells.length ∧ keepI b ι L i = ι j ∧ ((i < b ∧ j = i ∧ b0 = blk) ∨ (b ≤ i ∧ ∃ ds, L[i - b]? = some (j, ds) ∧ blk.cells = ds)) := by
  unfold keepH at e
  unfold keepI
  split at e
  · rename_i hi
    rw [if_pos hi]
    exact ⟨i, blk, e, rfl, rfl, rfl, .inl ⟨hi, rfl, rfl⟩⟩
  · rename_i hi
    rw [if_neg hi]
    cases hx : L[i - b]? with
    | none => rw [hx] at e; cases e
    | some x =>
      obtain ⟨j, ds⟩ := x
      rw [hx] at e
      obtain ⟨_, b0, hb0, hl, _⟩ := o.own _ _ _ hx
      simp only [hb0, Option.map_some, Option.some.injEq] at e
      subst e
      exact ⟨j, b0, hb0, rfl, hl.symm, rfl, .inr ⟨by omega, ds, rfl, rfl⟩⟩

theorem keep_at {b : Nat} {h : Heap} {L : List (Nat × List Cell)} {ι : Nat → Nat} {k id : Nat} {ds : List Cell} (e : L[k]? = some (id, ds)) :
    keepH b h L (b + k) = (h id).map (fun blk => ⟨blk.ver, ds⟩) ∧ keepI b ι L (b + k) = ι id := by
  unfold keepH keepI
  rw [if_neg (by omega), if_neg (by omega), Nat.add_sub_cancel_left, e]
  exact ⟨rfl, rfl⟩

theorem keep_lt {b : Nat} {h : Heap} {L : List (Nat × List Cell)} {ι : Nat → Nat} {i : Nat} (hi : i < b) : keepH b h L i = h i ∧ keepI b ι L i = ι i := by
  unfold keepH keepI
  rw [if_pos hi, if_pos hi]
  exact ⟨rfl, rfl⟩

theorem keep_stab {b : Nat} {h : Heap} {L : List (Nat × List Cell)} {ι : Nat → Nat} (o : KeepOK h b L) {x : Nat} (s : stab ι h x) : stab (keepI b ι L) (keepH b h L) x := by
  intro i blk e ne
  obtain ⟨j, b0, h0, _, h2, h3, _⟩ := keep_from (ι := ι) o e
  rw [h3]
  exact s j b0 h0 (fun hz => ne (List.eq_nil_of_length_eq_zero (by rw [← h2, hz]; rfl)))

theorem RCell.keep {ι : Nat → Nat} {h : Heap} {bd : Nat} {w : World} {b : Nat} {L : List (Nat × List Cell)} (o : KeepOK h b L) {c : Cell} {v : Value} (r : RCell ι h bd w c v) (hl : lowC b c = true) :
    RCell (keepI b ι L) (keepH b h L) (b + L.length) w c v := by
  have hst : ∀ x, stab ι h x → stab (keepI b ι L) (keepH b h L) x := fun x s => keep_stab o s
  induction r with
  | p hd => exact .p (hd.mono (fun x s _ => hst x s) (fun _ _ _ => rfl))
  | junk v => exact .junk v
  | @ptr id ver off v hid hver hv =>
    simp only [lowC, decide_eq_true_eq] at hl
    obtain ⟨e1, e2⟩ := keep_lt (h := h) (L := L) (ι := ι) hl
    exact .ptr (by omega) (fun blk e => hver blk (by rwa [e1] at e)) (fun blk e => by rw [e2]; exact hv blk (by rwa [e1] at e))
  | @ro cs A U hs hc =>
    refine .ro A U hs (fun j d hd => ?_)
    obtain ⟨h1, h2, h3⟩ := hc j d hd
    exact ⟨hst _ h1, h2, h3.mono (fun x s _ => hst x s) (fun _ _ _ => rfl)⟩
  | @win id ver off len cap v hid hver hv =>
    simp only [lowC, decide_eq_true_eq] at hl
    obtain ⟨e1, e2⟩ := keep_lt (h := h) (L := L) (ι := ι) hl
    exact .win (by omega) (fun blk e => hver blk (by rwa [e1] at e)) (fun blk e => by rw [e2]; exact hv blk (by rwa [e1] at e))
  | clo F C' hF hC h1 h2 ih1 ih2 =>
    simp only [lowC, Bool.and_eq_true] at hl
    exact .clo F C' hF hC (fun i c u hc hu => ih1 i c u hc hu (lowCs_mem hl.1 c (List.mem_of_getElem? hc))) (fun i c u hc hu => ih2 i c u hc hu (lowCs_mem hl.2 c (List.mem_of_getElem? hc)))

theorem renC_ok {ι : Nat → Nat} {h : Heap} {bd : Nat} {w : World} {b : Nat} {L : List (Nat × List Cell)} {c d : Cell} {v : Value} (H : HeapOK ι h bd w) (o : KeepOK h b L) (r : RCell ι h bd w c v) (f : renC h b L c d) :
    RCell (keepI b ι L) (keepH b h L) (b + L.length) w d v := by
  have hst : ∀ x, stab ι h x → stab (keepI b ι L) (keepH b h L) x := fun x s => keep_stab o s
  rcases f with ⟨rfl, hl⟩ | ⟨sz, rfl, rfl⟩ | ⟨id, ver, off, len, cap, sz, es, blk, rfl, rfl, hb, hnk, hblk, hver, hlen, hsz, hcells⟩ | ⟨k, id, ds, ver, off, len, cap, hk, rfl, rfl⟩ | ⟨k, id, ds, ver, off, hk, rfl, rfl⟩
  · exact r.keep o hl
  · cases r with
    | p hd => cases hd with
      | v =>
        have := RPD.sl (S := stab (keepI b ι L) (keepH b h L)) (w := w) (sz := sz) (es := []) none 0 (fun _ _ => undef) (Nat.le_refl _) (fun _ => rfl) (fun _ e => by cases e) (fun _ e => by cases e) (fun _ _ e => by simp at e) (fun _ _ e => by simp at e)
        exact .p this
  · cases r with
    | win hid hver' hv =>
      obtain ⟨hlc, hX⟩ := hv blk hblk hver
      rcases hX with rfl | ⟨rfl, rfl, rfl⟩
      · by_cases hne : blk.cells = []
        · have := RPD.sl (S := stab (keepI b ι L) (keepH b h L)) (w := w) (sz := sz) (es := es) (some ⟨ι id, off, none⟩) cap (fun _ _ => undef) (by omega) (fun hn => by cases hn) (fun A hA => by injection hA with hA; subst hA; exact .inr rfl) hsz
            (fun i e he j x hx => by have := hcells i e he j x hx; rw [hne] at this; simp at this) (fun i e he j x hx => by have := hcells i e he j x hx; rw [hne] at this; simp at this)
          rw [hlen] at this
          exact .p this
        · obtain ⟨c, ty, g1, g2, g3⟩ := H.blk id blk hblk hne
          have hself : stab (keepI b ι L) (keepH b h L) (ι id) := by
            intro i blk' e ne heq
            obtain ⟨j, b0, h0, _, h2, h3, h4⟩ := keep_from (ι := ι) o e
            rw [h3] at heq
            have hj := H.inj j id b0 blk h0 hblk (fun hz => ne (List.eq_nil_of_length_eq_zero (by rw [← h2, hz]; rfl))) hne heq
            subst hj
            rcases h4 with ⟨h5, h6, _⟩ | ⟨_, ds, h5, _⟩
            · omega
            · exact hnk _ _ h5
          have := RPD.sl (S := stab (keepI b ι L) (keepH b h L)) (w := w) (sz := sz) (es := es) (some ⟨ι id, off, none⟩) cap (fun i j => c.getD (off + (i * sz + j)) undef) (by omega) (fun hn => by cases hn) (fun A hA => by injection hA with hA; subst hA; exact .inr rfl) hsz
            (fun i e he j x hx => by
              have hx' := hcells i e he j x hx
              have hlt : off + (i * sz + j) < c.size := by rw [g2]; exact (List.getElem?_eq_some_iff.1 hx').1
              refine ⟨_, rfl, hself, ?_⟩
              simp [World.cell?, g1, Array.getD, hlt])
            (fun i e he j x hx => by
              have hx' := hcells i e he j x hx
              have hlt : off + (i * sz + j) < c.size := by rw [g2]; exact (List.getElem?_eq_some_iff.1 hx').1
              have hr := g3 _ _ _ hx' (Array.getElem?_eq_getElem hlt)
              cases hr with
              | p hd =>
                have e1 : c.getD (off + (i * sz + j)) undef = c[off + (i * sz + j)] := by simp [Array.getD, hlt]
                rw [e1]
                exact hd.mono (fun x s _ => hst x s) (fun _ _ _ => rfl))
          rw [hlen] at this
          exact .p this
      · have hes : es = [] := List.eq_nil_of_length_eq_zero hlen
        subst hes
        have := RPD.sl (S := stab (keepI b ι L) (keepH b h L)) (w := w) (sz := sz) (es := []) none 0 (fun _ _ => undef) (Nat.le_refl _) (fun _ => rfl) (fun _ e => by cases e) (fun _ e => by cases e) (fun _ _ e => by simp at e) (fun _ _ e => by simp at e)
        exact .p this
  · obtain ⟨e1, e2⟩ := keep_at (b := b) (h := h) (ι := ι) hk
    obtain ⟨_, b0, hb0, _, _⟩ := o.own _ _ _ hk
    have hlt : k < L.length := (List.getElem?_eq_some_iff.1 hk).1
    rw [hb0] at e1
    cases r with
    | win hid hver hv =>
      refine .win (by omega) (fun blk e => ?_) (fun blk e e' => ?_)
      · rw [e1] at e; injection e with e; subst e; exact hver b0 hb0
      · rw [e1] at e; injection e with e; subst e; rw [e2]; exact hv b0 hb0 e'
  · obtain ⟨e1, e2⟩ := keep_at (b := b) (h := h) (ι := ι) hk
    obtain ⟨_, b0, hb0, _, _⟩ := o.own _ _ _ hk
    have hlt : k < L.length := (List.getElem?_eq_some_iff.1 hk).1
    rw [hb0] at e1
    cases r with
    | ptr hid hver hv =>
      refine .ptr (by omega) (fun blk e => ?_) (fun blk e e' => ?_)
      · rw [e1] at e; injection e with e; subst e; exact hver b0 hb0
      · rw [e1] at e; injection e with e; subst e; rw [e2]; exact hv b0 hb0 e'

theorem renV_ok {ι : Nat → Nat} {h : Heap} {bd : Nat} {w : World} {b : Nat} {L : List (Nat × List Cell)} {c d : AV} {v : Value} (H : HeapOK ι h bd w) (o : KeepOK h b L) (f : renV h b L c d) (r : RAV ι h bd w c v) :
    RAV (keepI b ι L) (keepH b h L) (b + L.length) w d v := by
  induction f generalizing v with
  | one hc => cases r with | one hr => exact .one (renC_ok H o hr hc)
  | @agg cs ds hl hc =>
    cases r with
    | agg V hV hv =>
      refine .agg V (hV.trans hl.symm) (fun i d u hd hu => ?_)
      have hlt : i < cs.length := by rw [← hl]; exact (List.getElem?_eq_some_iff.1 hd).1
      exact renC_ok H o (hv i _ u (List.getElem?_eq_getElem hlt) hu) (hc i _ d (List.getElem?_eq_getElem hlt) hd)
  | @tup cs ds hl hc ih =>
    cases r with
    | tup V hV hv =>
      refine .tup V (hV.trans hl.symm) (fun i d u hd hu => ?_)
      have hlt : i < cs.length := by rw [← hl]; exact (List.getElem?_eq_some_iff.1 hd).1
      exact ih i _ d (List.getElem?_eq_getElem hlt) hd (hv i _ u (List.getElem?_eq_getElem hlt) hu)

theorem HeapOK.keep {ι : Nat → Nat} {h : Heap} {bd : Nat} {w : World} {b : Nat} {L : List (Nat × List Cell)} (H : HeapOK ι h bd w) (o : KeepOK h b L) : HeapOK (keepI b ι L) (keepH b h L) (b + L.length) w := by
  refine ⟨fun i blk e ne => ?_, fun i i' bi bi' hi hi' ni ni' heq => ?_⟩
  · obtain ⟨j, b0, h0, _, h2, h3, h4⟩ := keep_from (ι := ι) o e
    have ne0 : b0.cells ≠ [] := fun hz => ne (List.eq_nil_of_length_eq_zero (by rw [← h2, hz]; rfl))
    obtain ⟨c, ty, g1, g2, g3⟩ := H.blk j b0 h0 ne0
    refine ⟨c, ty, by rw [h3]; exact g1, by rw [g2, h2], fun x d u hd hu => ?_⟩
    rcases h4 with ⟨hlt, rfl, rfl⟩ | ⟨hge, ds, hx, hds⟩
    · exact (g3 x d u hd hu).keep o (o.low _ hlt _ h0 d (List.mem_of_getElem? hd))
    · obtain ⟨_, b1, hb1, hl1, hr1⟩ := o.own _ _ _ hx
      rw [h0] at hb1
      injection hb1 with hb1
      subst hb1
      have hlt : x < b0.cells.length := by rw [h2]; exact (List.getElem?_eq_some_iff.1 hd).1
      exact renC_ok H o (g3 x _ u (List.getElem?_eq_getElem hlt) hu) (hr1 x _ d (List.getElem?_eq_getElem hlt) (by rw [← hds]; exact hd))
  · obtain ⟨j, b0, h0, _, h2, h3, h4⟩ := keep_from (ι := ι) o hi
    obtain ⟨j', b0', h0', _, h2', h3', h4'⟩ := keep_from (ι := ι) o hi'
    rw [h3, h3'] at heq
    have hj := H.inj j j' b0 b0' h0 h0' (fun hz => ni (List.eq_nil_of_length_eq_zero (by rw [← h2, hz]; rfl))) (fun hz => ni' (List.eq_nil_of_length_eq_zero (by rw [← h2', hz]; rfl))) heq
    subst hj
    rcases h4 with ⟨a1, a2, _⟩ | ⟨a1, ds, a2, _⟩
    · rcases h4' with ⟨b1, b2, _⟩ | ⟨b1, ds', b2, _⟩
      · omega
      · have := (o.own _ _ _ b2).1; omega
    · rcases h4' with ⟨b1, b2, _⟩ | ⟨b1, ds', b2, _⟩
      · have := (o.own _ _ _ a2).1; omega
      · have := o.nd _ _ _ _ _ a2 b2; omega

/-- a body ends, and its blocks L live on -/
theorem Ends.keep {P : Program} {C : Ctx} {fn : Func} {R : AV → Heap → Prop} {s : St} {r0 r : AV} {m : Nat} (L : List (Nat × List Cell)) (hm : L.length = m) (o : KeepOK s.h C.b L) (hr : resA P s.h s.t fn.results.toList = some r0) (hf : renV s.h C.b L r0 r)
    (hR : R r (keepH C.b s.h L)) : Ends P C fn m R s := by
  intro a w ι I
  subst hm
  obtain ⟨v, h1, h2⟩ := res_ok (P := P) I hr
  refine ⟨v, r, keepH C.b s.h L, keepI C.b ι L, h1, hR, ⟨fun id hid b' e => ?_, fun id hid b' e ne => ?_, fun id hid => ?_, I.heap.keep o, I.keeps⟩, renV_ok I.heap o hf h2⟩
  · obtain ⟨e1, e2⟩ := keep_lt (h := s.h) (L := L) (ι := ι) hid
    rw [e2]
    exact I.outer id hid b' (by rwa [e1] at e)
  · obtain ⟨j, b0, h0, _, g2, g3, g4⟩ := keep_from (ι := ι) o e
    rw [g3]
    rcases g4 with ⟨a1, _⟩ | ⟨_, ds, a2, _⟩
    · omega
    · exact I.fresh j (o.own _ _ _ a2).1 b0 h0 (fun hz => ne (List.eq_nil_of_length_eq_zero (by rw [← g2, hz]; rfl)))
  · unfold keepH
    rw [if_neg (by omega), List.getElem?_eq_none (by omega)]

/-- the call's result is an own row, all else is as it was -/
theorem Ends.row {P : Program} {C : Ctx} {fn : Func} {R : AV → Heap → Prop} {s : St} {r0 : AV} {id : Nat} {blk : Blk} (hn : ∀ id, C.b ≤ id → C.h id = none) (H : HeapOK C.ι C.h C.b C.w) (he : ∀ id, id < C.b → s.h id = C.h id)
    (hid : C.b ≤ id) (hb : s.h id = some blk) (hlow : lowCs C.b blk.cells = true) (hr : resA P s.h s.t fn.results.toList = some r0) {r : AV} (hf : renV s.h C.b [(id, blk.cells)] r0 r) (hR : R r (upd C.h C.b blk)) : Ends P C fn 1 R s := by
  have o : KeepOK s.h C.b [(id, blk.cells)] := by
    refine ⟨fun k i ds e => ?_, fun k k' i ds ds' e e' => ?_, fun i hi b0 e => H.lowCells i b0 (by rw [← he i hi]; exact e)⟩
    · match k with
      | 0 =>
        simp only [List.getElem?_cons_zero, Option.some.injEq, Prod.mk.injEq] at e
        obtain ⟨rfl, rfl⟩ := e
        refine ⟨hid, blk, hb, rfl, fun j c d hc hd => .inl ⟨?_, lowCs_mem hlow c (List.mem_of_getElem? hc)⟩⟩
        rw [hc] at hd
        injection hd
      | k + 1 => simp at e
    · match k, k' with
      | 0, 0 => rfl
      | k + 1, _ => simp at e
      | _, k' + 1 => simp at e'
  refine Ends.keep [(id, blk.cells)] rfl o hr hf ?_
  have : keepH C.b s.h [(id, blk.cells)] = upd C.h C.b blk := by
    funext i
    rcases Nat.lt_trichotomy i C.b with h | h | h
    · rw [(keep_lt (ι := C.ι) h).1, upd_ne _ _ _ _ (by omega)]; exact he i h
    · subst h
      have := (keep_at (b := C.b) (h := s.h) (ι := C.ι) (L := [(id, blk.cells)]) (k := 0) rfl).1
      rw [Nat.add_zero] at this
      rw [this, upd_same, hb]
      rfl
    · rw [upd_ne _ _ _ _ (by omega), hn i (by omega)]
      unfold keepH
      rw [if_neg (by omega), List.getElem?_eq_none (by simp; omega)]
  rw [this]
  exact hR

/-- a body ends; of the outer blocks one was turned -/
theorem Ends.turn {P : Program} {C : Ctx} {fn : Func} {R : AV → Heap → Prop} {s : St} {r0 r : AV} {id : Nat} {blk : Blk} (hn : ∀ id, C.b ≤ id → C.h id = none) (H : HeapOK C.ι C.h C.b C.w) (hid : id < C.b)
    (he : ∀ i, i < C.b → s.h i = upd C.h id blk i) (hlow : lowCs C.b blk.cells = true) (hr : resA P s.h s.t fn.results.toList = some r0) (hf : frzV s.h C.b r0 r) (hR : R r (upd C.h id blk)) : Ends P C fn 0 R s := by
  refine Ends.low hr hf (fun i hi b0 e c hc => ?_) ?_
  · rw [he i hi] at e
    by_cases h : i = id
    · subst h; rw [upd_same] at e; injection e with e; subst e; exact lowCs_mem hlow c hc
    · rw [upd_ne _ _ _ _ h] at e; exact H.lowCells i b0 e c hc
  · rw [lowH_eq he (fun i hi => by rw [upd_ne _ _ _ _ (by omega)]; exact hn i hi)]
    exact hR

theorem renV.v {h : Heap} {b : Nat} {L : List (Nat × List Cell)} (x : Value) : renV h b L (.one (.p (.v x))) (.one (.p (.v x))) := .one (.inl ⟨rfl, rfl⟩)
theorem renV.win0 {h : Heap} {b : Nat} {id : Nat} {cs : List Cell} (ver off len cap : Nat) : renV h b [(id, cs)] (.one (.win id ver off len cap)) (.one (.win b ver off len cap)) :=
  .one (.inr (.inr (.inr (.inl ⟨0, id, cs, ver, off, len, cap, rfl, rfl, rfl⟩))))

/-- a contract's own rows are read-only, from now on -/
theorem ACalls.freeze {P : Program} {f : FuncId} {args : List AV} {h : Heap} {b m : Nat} {R R' : AV → Heap → Prop} (c : ACalls P f args h b m R)
    (k : ∀ r h', R r h' → ∃ r', frzV h' b r r' ∧ R' r' (lowH b h') ∧ ∀ id, id < b → ∀ blk, h' id = some blk → ∀ c ∈ blk.cells, lowC b c = true) : ACalls P f args h b 0 R' := by
  intro ι w vs hb hh ha
  refine (c ι w vs hb hh ha).mono fun e w' ⟨v, r, h', ι', he, hR, hp, hv⟩ => ?_
  obtain ⟨r', hf, hR', hl⟩ := k r h' hR
  refine ⟨v, r', lowH b h', ι', he, hR', ⟨fun id hid b' e => hp.outer id hid b' (lowH_some e).2, fun id hid b' e => ?_, fun id hid => ?_, hp.heap.low hl, hp.keeps⟩, frzV_ok hp.heap hf hv⟩
  · have := (lowH_some e).1; omega
  · unfold lowH; rw [if_neg (by omega)]

end Go.Proofs.YtengjcdilnikhaaDoor.Am
