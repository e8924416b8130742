/-
  A callee that only reads: own rows are lent to it as rows that can be read and are never written.
-/
import Derived.Test.YtengjcdilnikhaaDoorAmRange
namespace Go.Proofs.YtengjcdilnikhaaDoor.Am
set_option linter.unusedSimpArgs false
set_option linter.unusedVariables false
set_option linter.unnecessarySimpa false
open Go

/-- the heap without some blocks -/
def delP (h : Heap) (D : Nat → Bool) : Heap := fun i => if D i = true then none else h i
theorem delP_some {h : Heap} {D : Nat → Bool} {i : Nat} {b : Blk} (e : delP h D i = some b) : D i ≠ true ∧ h i = some b := by
  unfold delP at e
  split at e
  · cases e
  · exact ⟨by assumption, e⟩
theorem delP_less {h : Heap} {D : Nat → Bool} : ∀ id b, delP h D id = some b → h id = some b := fun _ _ e => (delP_some e).2
theorem stab_delP {ι : Nat → Nat} {h : Heap} {D : Nat → Bool} {x : Nat} (s : stab ι h x) : stab ι (delP h D) x := fun id blk e ne => s id blk (delP_less _ _ e) ne
theorem stab_at {ι : Nat → Nat} {h : Heap} {bd : Nat} {w : World} (H : HeapOK ι h bd w) {D : Nat → Bool} {id : Nat} {blk : Blk} (hb : h id = some blk) (hne : blk.cells ≠ []) (hD : D id = true) : stab ι (delP h D) (ι id) := by
  intro id' blk' e ne heq
  obtain ⟨h1, h2⟩ := delP_some e
  have := H.inj id' id blk' blk h2 hb ne hne heq
  subst this
  exact h1 hD

/-- what a cell is to one who only reads: the blocks D are lent -/
inductive View (h : Heap) (D : Nat → Bool) : Cell → PD → Prop
  | p (d : PD) : View h D (.p d) d
  | nil (sz : Nat) : View h D (.p (.v (.slice none 0 0))) (.sl sz [])
  | win {id ver off len cap sz : Nat} {es : List (List PD)} {blk : Blk} (X : Nat → Nat → Cell) (hD : D id = true) (hb : h id = some blk) (hv : blk.ver = ver) (hlen : es.length = len) (hsz : ∀ e ∈ es, e.length = sz)
      (hc : ∀ (i : Nat) (e : List PD), es[i]? = some e → ∀ (j : Nat) (x : PD), e[j]? = some x → blk.cells[off + (i * sz + j)]? = some (X i j))
      (hx : ∀ (i : Nat) (e : List PD), es[i]? = some e → ∀ (j : Nat) (x : PD), e[j]? = some x → View h D (X i j) x) : View h D (.win id ver off len cap) (.sl sz es)

inductive ViewC (h : Heap) (D : Nat → Bool) : Cell → Cell → Prop
  | same (c : Cell) : ViewC h D c c
  | p {c : Cell} {d : PD} (v : View h D c d) : ViewC h D c (.p d)
  | ptr {id ver off : Nat} {cs : List PD} {blk : Blk} (X : Nat → Cell) (hD : D id = true) (hb : h id = some blk) (hv : blk.ver = ver) (hne : blk.cells ≠ [])
      (hc : ∀ (j : Nat) (x : PD), cs[j]? = some x → blk.cells[off + j]? = some (X j)) (hx : ∀ (j : Nat) (x : PD), cs[j]? = some x → View h D (X j) x) : ViewC h D (.ptr id ver off) (.ro cs)
  | clo {fn : Fn} {cap cap' : List Cell} (hl : cap'.length = cap.length) (hc : ∀ (i : Nat) (c d : Cell), cap[i]? = some c → cap'[i]? = some d → ViewC h D c d) : ViewC h D (.clo fn [] cap) (.clo fn [] cap')

inductive ViewV (h : Heap) (D : Nat → Bool) : AV → AV → Prop
  | same (a : AV) : ViewV h D a a
  | one {c d : Cell} (v : ViewC h D c d) : ViewV h D (.one c) (.one d)
  | agg {cs ds : List Cell} (hl : ds.length = cs.length) (hc : ∀ (i : Nat) (c d : Cell), cs[i]? = some c → ds[i]? = some d → ViewC h D c d) : ViewV h D (.agg cs) (.agg ds)

def noH : Heap := fun _ => none
theorem delP_all (h : Heap) : delP h (fun _ => true) = noH := by funext i; rfl

theorem View.ok {ι : Nat → Nat} {h : Heap} {D : Nat → Bool} {bd : Nat} {w : World} (H : HeapOK ι h bd w) {c : Cell} {d : PD} (v : View h D c d) : ∀ {x : Value}, RCell ι h bd w c x → RPD (stab ι (delP h D)) w d x := by
  induction v with
  | p d => intro x r; cases r with | p hd => exact hd.mono (fun _ s _ => stab_delP s) (fun _ _ _ => rfl)
  | nil sz =>
    intro x r
    cases r with
    | p hd => cases hd with
      | v => exact RPD.sl (sz := sz) (es := []) none 0 (fun _ _ => undef) (Nat.le_refl _) (fun _ => rfl) (fun _ e => by cases e) (fun _ e => by cases e) (fun _ _ e => by simp at e) (fun _ _ e => by simp at e)
  | @win id ver off len cap sz es blk X hD hb hv hlen hsz hc hx ih =>
    intro x r
    cases r with
    | win hid hver hX =>
      obtain ⟨hlc, hX⟩ := hX blk hb hv
      rcases hX with rfl | ⟨rfl, h0, h1⟩
      · by_cases hne : blk.cells = []
        · have hno : ∀ (i : Nat) (e : List PD), es[i]? = some e → ∀ (j : Nat) (y : PD), e[j]? = some y → False := fun i e he j y hy => by have := hc i e he j y hy; rw [hne] at this; simp at this
          have := RPD.sl (S := stab ι (delP h D)) (w := w) (sz := sz) (es := es) (some ⟨ι id, off, none⟩) cap (fun _ _ => undef) (by omega) (fun hn => by cases hn) (fun A hA => by injection hA with hA; subst hA; exact .inr rfl) hsz
            (fun i e he j y hy => (hno i e he j y hy).elim) (fun i e he j y hy => (hno i e he j y hy).elim)
          rw [hlen] at this
          exact this
        · obtain ⟨cc, ty, g1, g2, g3⟩ := H.blk id blk hb hne
          have := RPD.sl (S := stab ι (delP h D)) (w := w) (sz := sz) (es := es) (some ⟨ι id, off, none⟩) cap (fun i j => cc.getD (off + (i * sz + j)) undef) (by omega) (fun hn => by cases hn) (fun A hA => by injection hA with hA; subst hA; exact .inr rfl) hsz
            (fun i e he j y hy => by
              have hx' := hc i e he j y hy
              have hlt : off + (i * sz + j) < cc.size := by rw [g2]; exact (List.getElem?_eq_some_iff.1 hx').1
              refine ⟨_, rfl, stab_at H hb hne hD, ?_⟩
              simp [World.cell?, g1, Array.getD, hlt])
            (fun i e he j y hy => by
              have hx' := hc i e he j y hy
              have hlt : off + (i * sz + j) < cc.size := by rw [g2]; exact (List.getElem?_eq_some_iff.1 hx').1
              have hr := g3 _ _ _ hx' (Array.getElem?_eq_getElem hlt)
              have e1 : cc.getD (off + (i * sz + j)) undef = cc[off + (i * sz + j)] := by simp [Array.getD, hlt]
              show RPD _ _ _ (cc.getD (off + (i * sz + j)) undef)
              rw [e1]
              exact ih i e he j y hy hr)
          rw [hlen] at this
          exact this
      · have hes : es = [] := List.eq_nil_of_length_eq_zero (by omega)
        subst hes
        exact RPD.sl (sz := sz) (es := []) none 0 (fun _ _ => undef) (Nat.le_refl _) (fun _ => rfl) (fun _ e => by cases e) (fun _ e => by cases e) (fun _ _ e => by simp at e) (fun _ _ e => by simp at e)

theorem ViewC.ok {ι : Nat → Nat} {h : Heap} {D : Nat → Bool} {bd : Nat} {w : World} (H : HeapOK ι h bd w) {c d : Cell} (v : ViewC h D c d) : ∀ {x : Value}, RCell ι h bd w c x → RCell ι (delP h D) bd w d x := by
  induction v with
  | same c => intro x r; exact r.move (.less delP_less)
  | p v => intro x r; exact .p (v.ok H r)
  | @ptr id ver off cs blk X hD hb hv hne hc hx =>
    intro x r
    cases r with
    | ptr hid hver hX =>
      have := hX blk hb hv
      subst this
      obtain ⟨cc, ty, g1, g2, g3⟩ := H.blk id blk hb hne
      refine .ro ⟨ι id, off, none⟩ (fun j => cc.getD (off + j) undef) rfl (fun j y hy => ?_)
      have hx' := hc j y hy
      have hlt : off + j < cc.size := by rw [g2]; exact (List.getElem?_eq_some_iff.1 hx').1
      have hr := g3 _ _ _ hx' (Array.getElem?_eq_getElem hlt)
      have e1 : cc.getD (off + j) undef = cc[off + j] := by simp [Array.getD, hlt]
      refine ⟨stab_at H hb hne hD, ?_, ?_⟩
      · simp [World.cell?, g1, Array.getD, hlt]
      · rw [e1]; exact (hx j y hy).ok H hr
  | @clo fn cap cap' hl hc ih =>
    intro x r
    cases r with
    | clo F C hF hC h1 h2 =>
      refine .clo F C hF (hC.trans hl.symm) (fun i c u e => by simp at e) (fun i d u e1 e2 => ?_)
      have hlt := (List.getElem?_eq_some_iff.1 e1).1
      have e0 := List.getElem?_eq_getElem (l := cap) (i := i) (hl ▸ hlt)
      exact ih i _ d e0 e1 (h2 i _ u e0 e2)

theorem ViewV.ok {ι : Nat → Nat} {h : Heap} {D : Nat → Bool} {bd : Nat} {w : World} (H : HeapOK ι h bd w) {a b : AV} (v : ViewV h D a b) {x : Value} (r : RAV ι h bd w a x) : RAV ι (delP h D) bd w b x := by
  cases v with
  | same => exact r.move (.less delP_less)
  | one v => cases r with | one hr => exact .one (v.ok H hr)
  | agg hl hc =>
    cases r with
    | agg V hV hv =>
      refine .agg V (hV.trans hl.symm) (fun i d u hd hu => ?_)
      have hlt := (List.getElem?_eq_some_iff.1 hd).1
      exact (hc i _ d (List.getElem?_eq_getElem (hl ▸ hlt)) hd).ok H (hv i _ u (List.getElem?_eq_getElem (hl ▸ hlt)) hu)

inductive ViewL (h : Heap) (D : Nat → Bool) : List AV → List AV → Prop
  | nil : ViewL h D [] []
  | cons {a b : AV} {al bl : List AV} (v : ViewV h D a b) (r : ViewL h D al bl) : ViewL h D (a :: al) (b :: bl)

theorem ViewL.ok {ι : Nat → Nat} {h : Heap} {D : Nat → Bool} {bd : Nat} {w : World} (H : HeapOK ι h bd w) {al bl : List AV} (v : ViewL h D al bl) : ∀ {vs : List Value}, RAVs ι h bd w al vs → RAVs ι (delP h D) bd w bl vs := by
  induction v with
  | nil => intro vs r; exact ⟨r.1, fun i c u hc hu => by simp at hc⟩
  | @cons a b al bl v _ ih =>
    intro vs r
    match vs, r with
    | [], r => have := r.1; simp at this
    | x :: vs, r =>
      obtain ⟨h1, h2⟩ := ih (vs := vs) ⟨by have := r.1; simpa using this, fun i c u hc hu => r.2 (i + 1) c u (by simpa using hc) (by simpa using hu)⟩
      refine ⟨by simp [h1], fun i c u hc hu => ?_⟩
      match i with
      | 0 => simp at hc hu; subst hc; subst hu; exact v.ok H (r.2 0 a x rfl rfl)
      | i + 1 => exact h2 i c u (by simpa using hc) (by simpa using hu)

/-- own rows are handed on, for ever read only -/
theorem ACalls.seal {P : Program} {f : FuncId} {args args' : List AV} {h : Heap} {b m : Nat} {R : AV → Heap → Prop} (D : Nat → Bool) (c : ACalls P f args' (delP h D) b m R) (hv : ViewL h D args args') : ACalls P f args h b m R := by
  intro ι w vs hb hh ha
  refine (c ι w vs (fun id hid => by unfold delP; rw [hb id hid]; simp) (hh.less delP_less) (hv.ok hh ha)).mono ?_
  rintro e w' ⟨v, r, h', ι', rfl, hR, hp, hr⟩
  exact ⟨v, r, h', ι', rfl, hR, ⟨fun id hid b' e => (by
    obtain ⟨b0, h0, h1⟩ := hp.outer id hid b' e
    exact ⟨b0, delP_less _ _ h0, h1⟩), hp.fresh, hp.bound, hp.heap, ⟨hp.keeps.size, hp.keeps.os, hp.keeps.output, fun x s hx => hp.keeps.old x (stab_delP s) hx⟩⟩, hr⟩

/-- an exact value: nothing of memory is in it -/
inductive Exact : AV → Prop
  | one (x : Value) : Exact (.one (.p (.v x)))
  | agg {cs : List Cell} (hc : ∀ c ∈ cs, ∃ x, c = .p (.v x)) : Exact (.agg cs)
  | tup {vs : List AV} (hv : ∀ v ∈ vs, ∃ x, v = .one (.p (.v x))) : Exact (.tup vs)

theorem Exact.move {r : AV} (e : Exact r) {ι ι' : Nat → Nat} {h h' : Heap} {bd bd' : Nat} {w w' : World} {x : Value} (a : RAV ι h bd w r x) : RAV ι' h' bd' w' r x := by
  cases e with
  | one y => rw [rav_v_inv a]; exact rav_v y
  | agg hc =>
    cases a with
    | agg V hl hv =>
      refine .agg V hl (fun i c u h1 h2 => ?_)
      obtain ⟨y, rfl⟩ := hc c (List.mem_of_getElem? h1)
      have := rav_v_inv (.one (hv i _ u h1 h2))
      subst this
      exact .p (.v _)
  | tup hv =>
    cases a with
    | tup V hl hw =>
      refine .tup V hl (fun i c u h1 h2 => ?_)
      obtain ⟨y, rfl⟩ := hv c (List.mem_of_getElem? h1)
      rw [rav_v_inv (hw i _ u h1 h2)]
      exact rav_v y

/-- a callee that is handed nothing that it could write, and answers exactly -/
theorem ACalls.lend {P : Program} {f : FuncId} {args args' : List AV} {h : Heap} {b : Nat} {r : AV} (c : ACalls P f args' noH b 0 (fun r' h' => r' = r ∧ h' = noH)) (hv : ViewL h (fun _ => true) args args') (he : Exact r) :
    ACalls P f args h b 0 (fun r' h' => r' = r ∧ h' = h) := by
  intro ι w vs hb hh ha
  have H0 : HeapOK ι noH b w := ⟨fun _ _ e => (by cases e), fun _ _ _ _ e => (by cases e)⟩
  have ha' := hv.ok hh ha
  rw [delP_all] at ha'
  refine (c ι w vs (fun _ _ => rfl) H0 ha').mono ?_
  rintro e w' ⟨v, r', h', ι', rfl, ⟨rfl, _⟩, hp, hr⟩
  have ag : ∀ S : Nat → Prop, AgreeOn S w w' := fun S x _ hx => hp.keeps.old x (fun _ _ e => (by cases e)) hx
  refine ⟨v, r', h, ι, rfl, ⟨rfl, rfl⟩, ⟨fun id _ b' e => ⟨b', e, .refl _ _ _⟩, fun id hid b' e => (by rw [hb id hid] at e; cases e), fun id hid => hb id (by omega), ⟨fun id blk e ne => ?_, hh.inj⟩, ⟨hp.keeps.size, hp.keeps.os, hp.keeps.output, ag _⟩⟩, he.move hr⟩
  obtain ⟨cc, ty, h1, h2, h3⟩ := hh.blk id blk e ne
  have M : Moves ι h b w ι h b w' := Moves.world (ag _)
  exact ⟨cc, ty, (ag (fun _ => True) _ trivial (Array.getElem?_eq_some_iff.1 h1).1).trans h1, h2, fun j d u hd hu => (h3 j d u hd hu).move M⟩

/-- a part of an own row, as one who only reads sees it -/
theorem view_rowT {h : Heap} {D : Nat → Bool} {id ver sz m j off cap : Nat} {es : List (List PD)} {T : List Cell} (hD : D id = true) (hb : h id = some (rowB ver es T)) (ho : okEs sz es) (hj : j + m ≤ es.length) (hoff : off = j * sz) :
    ViewC h D (.win id ver off m cap) (.p (.sl sz ((es.drop j).take m))) := by
  refine .p (.win (blk := rowB ver es T) (fun i k => .p ((((es.drop j).take m).getD i []).getD k (.v undef))) hD hb rfl (by rw [List.length_take, List.length_drop]; omega) (fun e he => ho.len e (List.mem_of_mem_drop (List.mem_of_mem_take he))) (fun i e he k x hx => ?_) (fun i e he k x hx => ?_))
  · have e1 : (((es.drop j).take m).getD i []) = e := by simp [List.getD, he]
    have e2 : (e.getD k (.v undef)) = x := by simp [List.getD, hx]
    simp only [e1, e2]
    rw [List.getElem?_take] at he
    split at he
    · rw [List.getElem?_drop] at he
      have := row_cells ho ver T (j + i) e he k x hx
      rw [Nat.zero_add, Nat.add_mul] at this
      rw [hoff, ← Nat.add_assoc]
      exact this
    · cases he
  · have e1 : (((es.drop j).take m).getD i []) = e := by simp [List.getD, he]
    have e2 : (e.getD k (.v undef)) = x := by simp [List.getD, hx]
    simp only [e1, e2]
    exact .p x

end Go.Proofs.YtengjcdilnikhaaDoor.Am
