/-
  The abstract machine: operations that only compute and read do what is told of them; The abstract machine: operations that only compute and read do what is told of them (the rest, and all together); The abstract machine: operations that only compute and read do what is told of them (slices, literals, and all together); The abstract machine: operations that only compute and read do what is told of them (literals, and all together); The abstract machine: one operation, and lists of operations.
-/
import Derived.Test.YtengjcdilnikhaaDoorAmSop
import Derived.Laws.Strings
import Derived.Laws.BytesArg
import Derived.Laws.StructEq
import Derived.Laws.Tables
namespace Go.Proofs.YtengjcdilnikhaaDoor.Am
set_option linter.unusedSimpArgs false
set_option linter.unusedVariables false
set_option linter.unnecessarySimpa false
open Go

variable {P : Program} {ι : Nat → Nat} {h : Heap} {bd : Nat} {w : World}

theorem tsz_run {t : TypeId} {n : Nat} (e : tsz P t = some n) : (sizeOf t).run P w = .ok n w := by
  unfold tsz at e
  cases hi : P.info? t with
  | none => rw [hi] at e; simp at e
  | some i => rw [hi] at e; simp at e; simp [sizeOf, typeInfo, hi, e]

theorem tagg_run {t : TypeId} {g : Bool} (e : tagg P t = some g) : (isAgg t).run P w = .ok g w := by
  unfold tagg at e
  cases hi : P.underlying t with
  | none => rw [hi] at e; simp at e
  | some i =>
    rw [hi] at e
    cases i <;> simp at e <;> subst e <;> simp [isAgg, run_underlying hi]

theorem slE_run {t e : TypeId} (he : slE P t = some e) : P.underlying t = some (.slice e) := by
  unfold slE at he
  split at he
  · rename_i h; injection he with he; subst he; exact h
  · cases he

theorem slS_run {t : TypeId} {z : Nat} (he : slS P t = some z) : ∃ e, P.underlying t = some (.slice e) ∧ tsz P e = some z := by
  unfold slS at he
  cases h : slE P t with
  | none => rw [h] at he; simp at he
  | some e => rw [h] at he; exact ⟨e, slE_run h, by simpa using he⟩

theorem arE_run {t e : TypeId} {n : Nat} (he : arE P t = some (n, e)) : P.underlying t = some (.array n e) := by
  unfold arE at he
  split at he
  · rename_i h; simp only [Option.some.injEq, Prod.mk.injEq] at he; obtain ⟨rfl, rfl⟩ := he; exact h
  · cases he

theorem arS_run {t : TypeId} {n z : Nat} (he : arS P t = some (n, z)) : ∃ e, P.underlying t = some (.array n e) ∧ tsz P e = some z := by
  unfold arS at he
  cases h : arE P t with
  | none => rw [h] at he; simp at he
  | some x =>
    obtain ⟨m, e⟩ := x
    rw [h] at he
    simp only [Option.bind_some] at he
    cases h2 : tsz P e with
    | none => rw [h2] at he; simp at he
    | some z' =>
      rw [h2] at he
      simp only [Option.map_some, Option.some.injEq, Prod.mk.injEq] at he
      obtain ⟨rfl, rfl⟩ := he
      exact ⟨e, arE_run h, h2⟩

theorem isStr_run {t : TypeId} (he : isStr P t = true) : P.underlying t = some .string := by
  unfold isStr at he
  split at he
  · assumption
  · cases he

theorem fldT_run {t u : TypeId} {f o : Nat} (he : fldT P t f = some (u, o)) : ∃ fs x, P.underlying t = some (.struct fs) ∧ fs[f]? = some x ∧ x.type = u ∧ x.offset = o := by
  unfold fldT at he
  split at he
  · rename_i fs h
    cases hx : fs[f]? with
    | none => rw [hx] at he; simp at he
    | some x => rw [hx] at he; simp at he; exact ⟨fs, x, h, hx, he.1, he.2⟩
  · cases he

theorem fldO_run {t : TypeId} {f o : Nat} (he : fldO P t f = some o) : ∃ fs x n, P.underlying t = some (.struct fs) ∧ fs[f]? = some x ∧ tsz P x.type = some (n + 1) ∧ x.offset = o := by
  unfold fldO at he
  split at he
  · rename_i fs h
    split at he
    · rename_i x hx
      split at he
      · rename_i n hn; injection he with he; exact ⟨fs, x, n, h, hx, hn, he⟩
      · cases he
    · cases he
  · cases he

theorem add_none (b o n : Nat) : Addr.add ⟨b, o, none⟩ n = ⟨b, o + n, none⟩ := Addr.add_lit b o n

theorem loadVar_ok {cs : List Cell} {blk B off : Nat} (hc : ∀ (j : Nat) (d : Cell), cs[j]? = some d → ∃ u, w.cell? ⟨blk, B + j, none⟩ = some u ∧ RCell ι h bd w d u)
    {t : TypeId} {av : AV} (e : partA P t cs off = some av) : ∃ v, (loadVar t ⟨blk, B + off, none⟩).run P w = .ok v w ∧ RAV ι h bd w av v := by
  unfold partA at e
  split at e
  · rename_i hg
    split at e
    · rename_i n hn
      split at e
      · rename_i hle
        injection e with e
        subst e
        have hcell : ∀ j, j < n → w.cell? ((⟨blk, B + off, none⟩ : Addr).add j) = some ((w.cell? ⟨blk, B + off + j, none⟩).getD undef) := by
          intro j hj
          obtain ⟨u, hu, _⟩ := hc (off + j) _ (List.getElem?_eq_getElem (by omega))
          rw [add_none, Nat.add_assoc, hu]; rfl
        refine ⟨.agg ((List.range n).map fun j => (w.cell? ⟨blk, B + off + j, none⟩).getD undef).toArray, ?_, ?_⟩
        · simp only [loadVar, Sem.run_bind, tagg_run hg, Result.andThen, if_true, tsz_run hn, run_loadCells w _ n _ hcell, Sem.run_pure]
        · refine .agg _ (by simp; omega) (fun i c u hci hu => ?_)
          simp only [List.getElem?_map] at hu
          have hi : i < n := by
            rcases Nat.lt_or_ge i n with h' | h'
            · exact h'
            · rw [List.getElem?_eq_none (by simpa using h')] at hu; cases hu
          rw [List.getElem?_take, if_pos hi, List.getElem?_drop] at hci
          obtain ⟨u', hu', hr⟩ := hc (off + i) c hci
          simp [hi, Nat.add_assoc, hu'] at hu
          subst hu
          exact hr
      · cases e
    · cases e
  · rename_i hg
    cases hd : cs[off]? with
    | none => rw [hd] at e; simp at e
    | some d =>
      rw [hd] at e
      simp at e
      subst e
      obtain ⟨u, hu, hr⟩ := hc off d hd
      exact ⟨u, by simp [loadVar, tagg_run hg, hu], .one hr⟩
  · cases e

theorem part_ok {cs : List Cell} {V : List Value} (hl : V.length = cs.length) (hc : ∀ (j : Nat) (d : Cell) (u : Value), cs[j]? = some d → V[j]? = some u → RCell ι h bd w d u)
    {t : TypeId} {off : Nat} {av : AV} (e : partA P t cs off = some av) : ∃ v, (part t V.toArray off).run P w = .ok v w ∧ RAV ι h bd w av v := by
  unfold partA at e
  split at e
  · rename_i hg
    split at e
    · rename_i n hn
      split at e
      · rename_i hle
        injection e with e
        subst e
        refine ⟨.agg ((V.drop off).take n).toArray, ?_, ?_⟩
        · simp only [part, Sem.run_bind, tagg_run hg, Result.andThen, if_true, tsz_run hn, Sem.run_pure]
          congr 2
          rw [List.extract_toArray]
          simp
        · refine .agg _ (by simp [hl]) (fun i c u hci hu => ?_)
          have hi : i < n := by
            rcases Nat.lt_or_ge i n with h' | h'
            · exact h'
            · rw [List.getElem?_take, if_neg (by omega)] at hu; cases hu
          rw [List.getElem?_take, if_pos hi, List.getElem?_drop] at hci hu
          exact hc _ c u hci hu
      · cases e
    · cases e
  · rename_i hg
    cases hd : cs[off]? with
    | none => rw [hd] at e; simp at e
    | some d =>
      rw [hd] at e
      simp at e
      subst e
      have hlt : off < V.length := by rw [hl]; exact (List.getElem?_eq_some_iff.1 hd).1
      have hu : V[off]? = some V[off] := List.getElem?_eq_getElem hlt
      exact ⟨V[off], by simp [part, tagg_run hg, hu], .one (hc _ _ _ hd hu)⟩
  · cases e

theorem ptr_inv {id ver off : Nat} {X : Value} (r : RAV ι h bd w (.one (.ptr id ver off)) X) {b : Blk} (hb : h id = some b) (hv : b.ver = ver) : X = .pointer (some ⟨ι id, off, none⟩) := by
  cases r with
  | one hc => cases hc with | ptr _ _ hv' => exact hv' b hb hv

theorem ro_inv {cs : List PD} {X : Value} (r : RAV ι h bd w (.one (.ro cs)) X) : ∃ (A : Addr) (U : Nat → Value), X = .pointer (some A) ∧ A.spot = none ∧
    ∀ (j : Nat) (d : PD), cs[j]? = some d → stab ι h A.block ∧ w.cell? ⟨A.block, A.off + j, none⟩ = some (U j) ∧ RPD (stab ι h) w d (U j) := by
  cases r with
  | one hc => cases hc with | ro A U hs hc => exact ⟨A, U, rfl, hs, hc⟩

theorem addr_eta {A : Addr} (e : A.spot = none) : A = ⟨A.block, A.off, none⟩ := by cases A; simp at e; subst e; rfl

theorem ld_ok (H : HeapOK ι h bd w) {t : TypeId} {x av : AV} {X : Value} (r : RAV ι h bd w x X) (e : ldA P t h x = some av) :
    ∃ v, (Instr.loadAt t X).run P w = .ok v w ∧ RAV ι h bd w av v := by
  unfold ldA at e
  split at e
  · rename_i id ver off
    split at e
    · rename_i b hb
      split at e
      · rename_i hv
        have hX := ptr_inv r hb hv
        subst hX
        by_cases hne : b.cells = []
        · unfold partA at e
          rw [hne] at e
          split at e
          · rename_i hg
            split at e
            · rename_i n hn
              split at e
              · rename_i hle
                simp at hle
                obtain ⟨rfl, rfl⟩ := hle
                injection e with e
                subst e
                refine ⟨.agg #[], ?_, ?_⟩
                · simp [Instr.loadAt, Instr.sureAddr, loadVar, tagg_run hg, tsz_run hn, loadCells, loadCellsFrom]
                · exact .agg [] rfl (fun _ _ _ hh => by simp at hh)
              · cases e
            · cases e
          · simp at e
          · cases e
        · obtain ⟨c, ty, h1, h2, h3⟩ := H.blk id b hb hne
          obtain ⟨v, hv1, hv2⟩ := loadVar_ok (P := P) (ι := ι) (h := h) (bd := bd) (w := w) (cs := b.cells) (blk := ι id) (B := 0) (off := off) (fun j d hd => by
            have hlt : j < c.size := by rw [h2]; exact (List.getElem?_eq_some_iff.1 hd).1
            refine ⟨c[j], ?_, h3 j d _ hd (Array.getElem?_eq_getElem hlt)⟩
            simp [World.cell?, h1, hlt]) e
          exact ⟨v, by simpa [Instr.loadAt, Instr.sureAddr] using hv1, hv2⟩
      · cases e
    · cases e
  · rename_i cs
    obtain ⟨A, U, rfl, hs, hc⟩ := ro_inv r
    obtain ⟨v, hv1, hv2⟩ := loadVar_ok (P := P) (ι := ι) (h := h) (bd := bd) (w := w) (cs := cs.map .p) (blk := A.block) (B := A.off) (off := 0) (fun j d hd => by
      rw [List.getElem?_map] at hd
      cases h0 : cs[j]? with
      | none => rw [h0] at hd; simp at hd
      | some d0 =>
        rw [h0] at hd
        simp at hd
        subst hd
        obtain ⟨_, h2, h3⟩ := hc j d0 h0
        exact ⟨U j, h2, .p h3⟩) e
    exact ⟨v, by rw [addr_eta hs]; simpa [Instr.loadAt, Instr.sureAddr] using hv1, hv2⟩
  · cases e

theorem fieldPlace_run {A : Addr} (hs : A.spot = none) {x : Field} {n : Nat} (hn : tsz P x.type = some (n + 1)) : (fieldPlace A x).run P w = .ok ⟨A.block, A.off + x.offset, none⟩ w := by
  simp only [fieldPlace, Sem.run_bind, tsz_run hn, Result.andThen]
  rw [if_neg (by omega), addr_eta hs, add_none]
  simp

theorem live_run {id ver : Nat} (e : liveB h id ver = true) : ∃ b, h id = some b ∧ b.ver = ver := by
  unfold liveB at e
  split at e
  · rename_i b hb; exact ⟨b, hb, by simpa using e⟩
  · cases e

theorem ptr_off {id ver off off' : Nat} {X : Value} (r : RAV ι h bd w (.one (.ptr id ver off)) X) : RAV ι h bd w (.one (.ptr id ver off')) (.pointer (some ⟨ι id, off', none⟩)) := by
  cases r with
  | one hc => cases hc with | ptr a b' c => exact .one (.ptr a b' (fun _ _ _ => rfl))

theorem fld_ok {t : TypeId} {x av : AV} {X : Value} {f : Nat} (r : RAV ι h bd w x X) (e : fldA P t h x f = some av) :
    ∃ v, (Instr.fieldAt t X f).run P w = .ok v w ∧ RAV ι h bd w av v := by
  unfold fldA at e
  split at e
  · rename_i o ho
    obtain ⟨fs, y, n, h1, h2, h3, rfl⟩ := fldO_run ho
    split at e
    · rename_i id ver off
      split at e
      · rename_i hl
        injection e with e
        subst e
        obtain ⟨b, hb, hv⟩ := live_run hl
        have hX := ptr_inv r hb hv
        subst hX
        refine ⟨.pointer (some ⟨ι id, off + y.offset, none⟩), ?_, ptr_off r⟩
        simp only [Instr.fieldAt, Sem.run_bind, run_underlying h1, Result.andThen, h2, Instr.sureAddr, Sem.run_pure, fieldPlace_run (A := ⟨ι id, off, none⟩) rfl h3]
      · cases e
    · rename_i cs
      injection e with e
      subst e
      obtain ⟨A, U, rfl, hs, hc⟩ := ro_inv r
      refine ⟨.pointer (some ⟨A.block, A.off + y.offset, none⟩), ?_, ?_⟩
      · simp only [Instr.fieldAt, Sem.run_bind, run_underlying h1, Result.andThen, h2, Instr.sureAddr, Sem.run_pure, fieldPlace_run hs h3]
      · refine .one (.ro _ (fun j => U (y.offset + j)) rfl (fun j d hd => ?_))
        rw [List.getElem?_drop] at hd
        obtain ⟨g1, g2, g3⟩ := hc _ d hd
        exact ⟨g1, by show w.cell? ⟨A.block, A.off + y.offset + j, none⟩ = _; rw [Nat.add_assoc]; exact g2, g3⟩
    · cases e
  · cases e

theorem int_inv {k : IntKind} {i : Int} {X : Value} (r : RAV ι h bd w (.one (.p (.v (.int k i)))) X) : X = .int k i := rav_v_inv r

theorem sl_inv {sz : Nat} {es : List (List PD)} {X : Value} (r : RAV ι h bd w (.one (.p (.sl sz es))) X) : ∃ (a : Option Addr) (cap : Nat) (U : Nat → Nat → Value), X = .slice a es.length cap ∧ es.length ≤ cap ∧ (a = none → cap = 0) ∧
    (∀ A, a = some A → es = [] ∨ A.spot = none) ∧ (∀ e ∈ es, e.length = sz) ∧
    (∀ (i : Nat) (e : List PD), es[i]? = some e → ∀ (j : Nat) (d : PD), e[j]? = some d → ∃ A : Addr, a = some A ∧ stab ι h A.block ∧ w.cell? ⟨A.block, A.off + (i * sz + j), none⟩ = some (U i j)) ∧
    (∀ (i : Nat) (e : List PD), es[i]? = some e → ∀ (j : Nat) (d : PD), e[j]? = some d → RPD (stab ι h) w d (U i j)) := by
  cases r with
  | one hc => cases hc with | p hd => cases hd with | sl a cap U h1 h2 h3 h4 h5 h6 => exact ⟨a, cap, U, rfl, h1, h2, h3, h4, h5, h6⟩

theorem win_inv {id ver off len cap : Nat} {X : Value} (r : RAV ι h bd w (.one (.win id ver off len cap)) X) (hl : liveB h id ver = true) :
    len ≤ cap ∧ (X = .slice (some ⟨ι id, off, none⟩) len cap ∨ (X = .slice none 0 0 ∧ len = 0 ∧ cap = 0)) := by
  obtain ⟨b, hb, hv⟩ := live_run hl
  cases r with
  | one hc => cases hc with | win _ _ hv' => exact hv' b hb hv

theorem win_hd {id ver off len cap : Nat} {X : Value} (r : RAV ι h bd w (.one (.win id ver off len cap)) X) : id < bd ∧ ∀ blk, h id = some blk → ver ≤ blk.ver := by
  cases r with
  | one hc => cases hc with | win a b _ => exact ⟨a, b⟩

theorem ptr_hd {id ver off : Nat} {X : Value} (r : RAV ι h bd w (.one (.ptr id ver off)) X) : id < bd ∧ ∀ blk, h id = some blk → ver ≤ blk.ver := by
  cases r with
  | one hc => cases hc with | ptr a b _ => exact ⟨a, b⟩

theorem idx_ok {t : TypeId} {x i av : AV} {X I : Value} (r : RAV ι h bd w x X) (ri : RAV ι h bd w i I) (e : idxA P t h x i = some av) :
    ∃ v, (Instr.indexAt t X I).run P w = .ok v w ∧ RAV ι h bd w av v := by
  unfold idxA at e
  split at e
  · rename_i k i
    have hI := int_inv ri
    subst hI
    split at e
    · rename_i sz es
      split at e
      · rename_i z hz
        split at e
        · rename_i hc
          obtain ⟨rfl, h0, h1⟩ := hc
          injection e with e
          subst e
          obtain ⟨el, hu, hs⟩ := slS_run hz
          obtain ⟨a, cap, U, rfl, g1, g2, g3, g4, g5, g6⟩ := sl_inv r
          have hi : i.toNat < es.length := by omega
          have he : es[i.toNat]? = some (es.getD i.toNat []) := by simp [List.getD, hi]
          have hal : ∃ A, a = some A := by
            cases a with
            | some A => exact ⟨A, rfl⟩
            | none => have := g2 rfl; omega
          obtain ⟨A, rfl⟩ := hal
          refine ⟨.pointer (some ⟨A.block, A.off + i.toNat * z, none⟩), ?_, ?_⟩
          · have hsp := (g3 A rfl).resolve_left (fun hh => by rw [hh] at hi; simp at hi)
            simp only [Instr.indexAt, asIntOf, Sem.run_bind, Sem.run_pure, Result.andThen, run_underlying hu, if_pos (And.intro h0 h1), tsz_run hs]
            rw [addr_eta hsp, add_none]
          · refine .one (.ro _ (fun j => U i.toNat j) rfl (fun j d hd => ?_))
            obtain ⟨A', hA', k1, k2⟩ := g5 _ _ he j d hd
            injection hA' with hA'
            subst hA'
            exact ⟨k1, by show w.cell? ⟨A.block, A.off + i.toNat * z + j, none⟩ = _; rw [Nat.add_assoc]; exact k2, g6 _ _ he j d hd⟩
        · cases e
      · cases e
    · rename_i id ver off len cap
      split at e
      · rename_i z hz
        split at e
        · rename_i hc
          obtain ⟨hl, h0, h1⟩ := hc
          injection e with e
          subst e
          obtain ⟨el, hu, hs⟩ := slS_run hz
          obtain ⟨g0, hX⟩ := win_inv r hl
          have hX : X = .slice (some ⟨ι id, off, none⟩) len cap := by
            rcases hX with hX | ⟨_, hX, _⟩
            · exact hX
            · omega
          subst hX
          refine ⟨.pointer (some ⟨ι id, off + i.toNat * z, none⟩), ?_, .one (.ptr (win_hd r).1 (win_hd r).2 (fun _ _ _ => rfl))⟩
          simp only [Instr.indexAt, asIntOf, Sem.run_bind, Sem.run_pure, Result.andThen, run_underlying hu, if_pos (And.intro h0 h1), tsz_run hs, add_none]
        · cases e
      · cases e
    · rename_i id ver off
      split at e
      · rename_i n z hz
        split at e
        · rename_i hc
          obtain ⟨hl, h0, h1⟩ := hc
          injection e with e
          subst e
          obtain ⟨el, hu, hs⟩ := arS_run hz
          obtain ⟨b, hb, hv⟩ := live_run hl
          have hX := ptr_inv r hb hv
          subst hX
          refine ⟨.pointer (some ⟨ι id, off + i.toNat * z, none⟩), ?_, ptr_off r⟩
          simp only [Instr.indexAt, asIntOf, Sem.run_bind, Sem.run_pure, Result.andThen, run_underlying hu, Instr.sureAddr, if_pos (And.intro h0 h1), tsz_run hs, add_none]
        · cases e
      · cases e
    · cases e
  · cases e

theorem agg_inv {cs : List Cell} {X : Value} (r : RAV ι h bd w (.agg cs) X) : ∃ V : List Value, X = .agg V.toArray ∧ V.length = cs.length ∧
    ∀ (i : Nat) (c : Cell) (u : Value), cs[i]? = some c → V[i]? = some u → RCell ι h bd w c u := by
  cases r with
  | agg V hl hv => exact ⟨V, rfl, hl, hv⟩

theorem idxV_ok {t : TypeId} {x i av : AV} {X I : Value} (r : RAV ι h bd w x X) (ri : RAV ι h bd w i I) (e : idxV P t x i = some av) :
    ∃ v, (Instr.index t X I).run P w = .ok v w ∧ RAV ι h bd w av v := by
  unfold idxV at e
  split at e
  · rename_i k i
    have hI := int_inv ri
    subst hI
    split at e
    · rename_i s
      split at e
      · rename_i hc
        obtain ⟨hs, h0, h1⟩ := hc
        injection e with e
        subst e
        have hX := rav_v_inv r
        subst hX
        have hlt : i.toNat < s.size := by omega
        refine ⟨_, ?_, rav_v _⟩
        have hb : s[i.toNat]? = some s[i.toNat] := by simp [hlt]
        have hb2 : strAt s i.toNat = (s[i.toNat].toNat : Int) := by
          unfold strAt
          have : s.data.toList.getD i.toNat 0 = s[i.toNat] := by
            have h2 : i.toNat < s.data.size := hlt
            simp only [List.getD, Array.getElem?_toList]
            rw [Array.getElem?_eq_getElem h2]
            rfl
          rw [this]
        simp only [Instr.index, asIntOf, Sem.run_bind, Sem.run_pure, Result.andThen, run_underlying (isStr_run hs), if_pos h0, hb, hb2]
      · cases e
    · rename_i cs
      split at e
      · rename_i n el hz
        split at e
        · rename_i z hs
          split at e
          · rename_i hc
            obtain ⟨V, rfl, hl, hv⟩ := agg_inv r
            obtain ⟨v, h1, h2⟩ := part_ok (P := P) hl hv e
            refine ⟨v, ?_, h2⟩
            simp only [Instr.index, asIntOf, Sem.run_bind, Sem.run_pure, Result.andThen, run_underlying (arE_run hz), if_pos hc, tsz_run hs, h1]
          · cases e
        · cases e
      · cases e
    · cases e
  · cases e

theorem field_ok {t : TypeId} {x av : AV} {X : Value} {f : Nat} (r : RAV ι h bd w x X) (e : fieldA P t x f = some av) :
    ∃ v, (Instr.field t X f).run P w = .ok v w ∧ RAV ι h bd w av v := by
  unfold fieldA at e
  split at e
  · rename_i cs
    split at e
    · rename_i u o hu
      obtain ⟨fs, y, h1, h2, rfl, rfl⟩ := fldT_run hu
      obtain ⟨V, rfl, hl, hv⟩ := agg_inv r
      obtain ⟨v, g1, g2⟩ := part_ok (P := P) hl hv e
      refine ⟨v, ?_, g2⟩
      simp only [Instr.field, asAgg, Sem.run_bind, Sem.run_pure, Result.andThen, run_underlying h1, h2, g1]
    · cases e
  · cases e

end Go.Proofs.YtengjcdilnikhaaDoor.Am

namespace Go.Proofs.YtengjcdilnikhaaDoor.Am
set_option linter.unusedSimpArgs false
set_option linter.unusedVariables false
set_option linter.unnecessarySimpa false
open Go

variable {P : Program} {ι : Nat → Nat} {h : Heap} {bd : Nat} {w : World}

theorem intB_ok {op : BinOp} {k : IntKind} {a b : Int} {v : Value} (hs : isShift op = false) (e : intB op k a b = some v) (t : TypeId) : (binOp op t (.int k a) (.int k b)).run P w = .ok v w := by
  cases op <;> simp only [intB, isShift, Option.some.injEq, reduceCtorEq] at e hs
  case quo => split at e; · cases e
              · rename_i hb; injection e with e; subst e; simp [binOp, Op.intDiv, hb]
  case rem => split at e; · cases e
              · rename_i hb; injection e with e; subst e; simp [binOp, Op.intDiv, hb]
  case eql => subst e; simp [binOp, Op.intCmp]; rfl
  case neq => subst e; simp [binOp, Op.intCmp]; rfl
  all_goals subst e; simp [binOp, Op.intArith, Op.intBits, Op.intCmp, andI, orI, xorI, andNotI]

theorem shiftB_ok {op : BinOp} {k k' : IntKind} {a b : Int} {v : Value} (e : shiftB op k a b = some v) (t : TypeId) : (binOp op t (.int k a) (.int k' b)).run P w = .ok v w := by
  cases op <;> simp only [shiftB, reduceCtorEq] at e
  all_goals
    split at e
    · cases e
    · rename_i hb; injection e with e; subst e; simp [binOp, Op.shift, hb]

theorem strB_ok {op : BinOp} {a b : ByteArray} {v : Value} (e : strB op a b = some v) (t : TypeId) : (binOp op t (.string a) (.string b)).run P w = .ok v w := by
  have e1 : a.toList = a.data.toList := ByteArray.toList_eq a
  have e2 : b.toList = b.data.toList := ByteArray.toList_eq b
  have e3 : (a.data.toList == b.data.toList) = decide (a.data.toList = b.data.toList) := by rw [Bool.eq_iff_iff]; simp
  cases op <;> simp only [strB, Option.some.injEq, reduceCtorEq] at e
  case add =>
    split at e
    · rename_i hb
      injection e with e
      subst e
      have : ¬ (((a.size + b.size : Nat) : Int) > IntKind.i64.max) := by rw [IntKind.max_i64]; omega
      simp only [binOp, Op.stringOp]
      rw [if_neg this]; rfl
    · cases e
  all_goals
    subst e
    simp only [binOp, Op.stringOp, e1, e2, e3]
    rfl

theorem floatB_ok {op : BinOp} {k : FloatKind} {a b : Nat} {v : Value} (e : floatB op k a b = some v) (t : TypeId) : (binOp op t (.float k a) (.float k b)).run P w = .ok v w := by
  cases op <;> simp only [floatB, Option.some.injEq, reduceCtorEq] at e
  all_goals subst e; simp [binOp, Op.floatCmp]
theorem isFlt_run {t : TypeId} (he : isFlt P t = true) : ∃ k, P.underlying t = some (.float k) := by
  unfold isFlt at he
  split at he
  · rename_i k h; exact ⟨k, h⟩
  · cases he

theorem isBoolT_run {t : TypeId} (he : isBoolT P t = true) : P.underlying t = some .bool := by
  unfold isBoolT at he
  split at he
  · assumption
  · cases he

theorem equal_bool {t : TypeId} (hu : P.underlying t = some .bool) (a b : Bool) : (Op.equal t (.bool a) (.bool b)).run P w = .ok (a == b) w := by
  have : ∀ n, (Op.equalIn (n + 1) t (.bool a) (.bool b)).run P w = .ok (a == b) w := by
    intro n
    simp only [Op.equalIn, Sem.run_bind, run_underlying hu, Result.andThen, Sem.run_pure]
  exact this 9999

theorem binV_ok {op : BinOp} {a b v : Value} {t : TypeId} (e : binV P t op a b = some v) : (binOp op t a b).run P w = .ok v w := by
  unfold binV at e
  split at e
  · split at e
    · exact shiftB_ok e t
    · rename_i hs
      split at e
      · rename_i hk; subst hk; exact intB_ok (by simpa using hs) e t
      · cases e
  · exact strB_ok e t
  · split at e
    · rename_i x y hb
      have hu := isBoolT_run hb
      split at e
      · injection e with e; subst e; simp only [binOp, Sem.run_bind, equal_bool hu, Result.andThen, Sem.run_pure]
      · injection e with e; subst e; simp only [binOp, Sem.run_bind, equal_bool hu, Result.andThen, Sem.run_pure]; rfl
      · cases e
    · cases e
  · split at e
    · rename_i hk; subst hk; exact floatB_ok e t
    · cases e
  · cases e

theorem guard_ok {op : BinOp} {a b v : Value} {t : TypeId} (e : binV P t op a b = some v) (x y : Operand) : (eqGuard op t x y a b).run P w = .ok () w := by
  unfold binV at e
  split at e
  · rw [eqGuard_at_int]; rfl
  · rw [eqGuard_at_string]; rfl
  · rw [eqGuard_at_bool]; rfl
  · rw [eqGuard_at_float]; rfl
  · cases e

theorem intK_some {t : TypeId} (he : (intK P t).isSome = true) : ∃ k, P.underlying t = some (.int k) := by
  unfold intK at he
  split at he
  · rename_i k h; exact ⟨k, h⟩
  · cases he

theorem eqV_ok {t : TypeId} {a b : Value} {r : Bool} (d : Nat) (e : eqV P t a b = some r) : (Op.equalIn (d + 1) t a b).run P w = .ok r w := by
  unfold eqV at e
  split at e
  · split at e
    · rename_i h
      obtain ⟨rfl, h2⟩ := h
      obtain ⟨k', hk⟩ := intK_some h2
      injection e with e
      subst e
      rw [run_equalIn_int w d t _ k' _ _ hk]
      congr 1
    · cases e
  · split at e
    · rename_i x y h
      injection e with e
      subst e
      rw [run_equalIn_string w d t _ _ (isStr_run h)]
      congr 1
      rw [ByteArray.toList_eq, ByteArray.toList_eq]
      rw [Bool.eq_iff_iff]; simp
    · cases e
  · split at e
    · rename_i h
      injection e with e
      subst e
      exact run_equalIn_bool' w d t _ _ (isBoolT_run h)
    · cases e
  · split at e
    · rename_i h
      obtain ⟨rfl, h2⟩ := h
      obtain ⟨k', hk⟩ := isFlt_run h2
      injection e with e
      subst e
      simp only [Op.equalIn, Sem.run_bind, run_underlying hk, Result.andThen, if_true, Sem.run_pure]
      rfl
    · cases e
  · cases e

theorem eqAV_ok : ∀ (f d : Nat) (t : TypeId) (x y : AV) (X Y : Value) (r : Bool), RAV ι h bd w x X → RAV ι h bd w y Y → eqAV P f t x y = some r → (Op.equalIn (d + f) t X Y).run P w = .ok r w
  | 0, _, _, _, _, _, _, _, _, _, e => by cases e
  | f + 1, d, t, x, y, X, Y, r, rx, ry, e => by
    unfold eqAV at e
    split at e
    · have h1 := rav_v_inv rx
      have h2 := rav_v_inv ry
      subst h1; subst h2
      rw [← Nat.add_assoc]
      exact eqV_ok _ e
    · rename_i cs ds
      split at e
      · rename_i fs hfs
        cases rx with
        | agg V hl hv =>
          cases ry with
          | agg U hl' hv' =>
            unfold flds at hfs
            split at hfs
            · rename_i hc
              split at hfs
              · rename_i gs hu
                split at hfs
                · rename_i hall
                  injection hfs with hfs
                  have hfo : P.fieldsOf t = gs := by simp [Program.fieldsOf, hu]
                  rw [← Nat.add_assoc, run_equalIn_struct w (d + f) t V.toArray U.toArray (by rw [hfo]; exact hu) hc.1, hfo]
                  have hall' : ∀ g ∈ gs.toList, g.name ≠ "_" := fun g hg => by simpa using List.all_eq_true.1 hall g hg
                  clear hall hu hfo hc
                  revert hall' e r
                  subst hfs
                  generalize gs.toList = l
                  intro r e hall
                  induction l generalizing r with
                  | nil => simp [eqFs] at e; subst e; simp [Op.eqFields]
                  | cons g l ih =>
                    simp only [List.map_cons, eqFs] at e
                    split at e
                    · rename_i a b ha hb
                      split at e
                      · rename_i r1 q1 hr hq
                        injection e with e
                        subst e
                        obtain ⟨v1, p1, p2⟩ := part_ok (P := P) hl hv ha
                        obtain ⟨v2, q1', q2⟩ := part_ok (P := P) hl' hv' hb
                        have hcmp := eqAV_ok f d g.type a b v1 v2 r1 p2 q2 hr
                        have hrest := ih q1 hq (fun x hx => hall x (by simp [hx]))
                        simp only [Op.eqFields, if_pos (hall g (by simp)), Sem.run_bind, p1, q1', hcmp, Result.andThen]
                        cases r1
                        · simp
                        · simpa using hrest
                      · cases e
                    · cases e
                · cases hfs
              · cases hfs
            · cases hfs
      · cases e
    · cases e

theorem bin_ok {op : BinOp} {x y av : AV} {X Y : Value} {t : TypeId} {ox oy : Operand} (rx : RAV ι h bd w x X) (ry : RAV ι h bd w y Y) (e : binA P t op x y = some av) :
    ∃ v, (do eqGuard op t ox oy X Y; binOp op t X Y : Sem Value).run P w = .ok v w ∧ RAV ι h bd w av v := by
  unfold binA at e
  split at e
  · rename_i a b
    have h1 := rav_v_inv rx
    have h2 := rav_v_inv ry
    subst h1; subst h2
    cases hv : binV P t op X Y with
    | none => rw [hv] at e; simp at e
    | some v =>
      rw [hv] at e
      simp at e
      subst e
      exact ⟨v, by simp only [Sem.run_bind, guard_ok hv, Result.andThen, binV_ok hv], rav_v v⟩
  · rename_i cs ds
    cases hr : eqAV P 4 t (.agg cs) (.agg ds) with
    | none => rw [hr] at e; simp at e
    | some r =>
      rw [hr] at e
      simp only [Option.bind_some] at e
      have hcmp := eqAV_ok 4 9996 t _ _ X Y r rx ry hr
      have hg : P.eqGuardType P.depth t = false := by
        unfold eqAV at hr
        simp only at hr
        split at hr
        · rename_i fs hfs
          unfold flds at hfs
          split at hfs
          · rename_i hc; exact hc.2
          · cases hfs
        · cases hr
      cases rx with
      | agg V hl hv =>
        cases ry with
        | agg U hl' hv' =>
          unfold eqR at e
          split at e
          · injection e with e; subst e
            exact ⟨.bool r, by simp only [Sem.run_bind, run_eqGuard_agg w _ t ox oy _ _ hg, Result.andThen, run_eql_struct]; rw [show (10000 : Nat) = 9996 + 4 from rfl, hcmp], rav_v _⟩
          · injection e with e; subst e
            exact ⟨.bool !r, by simp only [Sem.run_bind, run_eqGuard_agg w _ t ox oy _ _ hg, Result.andThen, run_neq_struct]; rw [show (10000 : Nat) = 9996 + 4 from rfl, hcmp], rav_v _⟩
          · cases e
  · cases e

theorem un_ok {op : UnOp} {x av : AV} {X : Value} (rx : RAV ι h bd w x X) (e : unA op x = some av) :
    ∃ v, (Op.unary op X).run P w = .ok v w ∧ RAV ι h bd w av v := by
  unfold unA at e
  split at e
  · rename_i a
    have h1 := rav_v_inv rx
    subst h1
    cases hv : unV op X with
    | none => rw [hv] at e; simp at e
    | some v =>
      rw [hv] at e
      simp at e
      subst e
      refine ⟨v, ?_, rav_v v⟩
      unfold unV at hv
      split at hv
      · injection hv with hv; subst hv; rfl
      · injection hv with hv; subst hv; rfl
      · injection hv with hv; subst hv; simp [Op.unary, Op.intBits, notI]
      · cases hv
  · cases e

theorem intK_run {t : TypeId} {k : IntKind} (he : intK P t = some k) : P.underlying t = some (.int k) := by
  unfold intK at he
  split at he
  · rename_i h; injection he with he; subst he; exact h
  · cases he

theorem octV_inv {x : PD} {c : UInt8} (e : octV x = some c) : ∃ n : Int, x = .v (.int .u8 n) ∧ c = UInt8.ofNat n.toNat := by
  unfold octV at e
  split at e
  · split at e
    · injection e with e; exact ⟨_, rfl, e.symm⟩
    · cases e
  · cases e
theorem octE_inv : ∀ {es : List (List PD)} {cs : List UInt8}, octE es = some cs → ∃ ns : List Int, es = ns.map (fun n => [.v (.int .u8 n)]) ∧ cs = ns.map fun n => UInt8.ofNat n.toNat
  | [], cs, e => by
    unfold octE at e; injection e with e; exact ⟨[], rfl, e.symm⟩
  | a :: es, cs, e => by
    unfold octE at e
    split at e
    · rename_i h; cases h
    · rename_i x es2 h
      obtain ⟨rfl, rfl⟩ := List.cons.inj h
      split at e
      · rename_i c cs' hc hcs
        injection e with e; subst e
        obtain ⟨n, rfl, rfl⟩ := octV_inv hc
        obtain ⟨ns, rfl, rfl⟩ := octE_inv hcs
        exact ⟨n :: ns, rfl, rfl⟩
      · cases e
    · cases e
theorem octC_inv : ∀ {es : List Cell} {cs : List UInt8}, octC es = some cs → ∃ ns : List Int, es = ns.map (fun n => .p (.v (.int .u8 n))) ∧ cs = ns.map fun n => UInt8.ofNat n.toNat
  | [], cs, e => by
    unfold octC at e; injection e with e; exact ⟨[], rfl, e.symm⟩
  | a :: es, cs, e => by
    unfold octC at e
    split at e
    · rename_i h; cases h
    · rename_i x es2 h
      obtain ⟨rfl, rfl⟩ := List.cons.inj h
      split at e
      · rename_i c cs' hc hcs
        injection e with e; subst e
        obtain ⟨n, rfl, rfl⟩ := octV_inv hc
        obtain ⟨ns, rfl, rfl⟩ := octC_inv hcs
        exact ⟨n :: ns, rfl, rfl⟩
      · cases e
    · cases e
theorem octT_run {s d : TypeId} (e : octT P s d = true) : ∃ el, P.underlying s = some (.slice el) ∧ P.underlying el = some (.int .u8) ∧ P.underlying d = some .string := by
  unfold octT at e
  split at e
  · rename_i el hel
    simp only [Bool.and_eq_true, decide_eq_true_eq] at e
    exact ⟨el, slE_run hel, intK_run e.1, isStr_run e.2⟩
  · cases e
theorem strOfNums_eq (ns : List Int) : strOfNums ns = ⟨(ns.map fun n => UInt8.ofNat n.toNat).toArray⟩ := rfl
theorem conv_zero {s d el : TypeId} (h1 : P.underlying s = some (.slice el)) (h2 : P.underlying el = some (.int .u8)) (h3 : P.underlying d = some .string) (a : Addr) (cap : Nat) :
    (convert s d (.slice (some a) 0 cap)).run P w = .ok (.string ⟨([] : List UInt8).toArray⟩) w := by
  rw [run_convert_bytes_string w s d el _ 0 cap h1 h2 h3, run_bytesToString w a 0 cap [] rfl]; rfl

theorem conv_ok {s d : TypeId} {x av : AV} {X : Value} (H : HeapOK ι h bd w) (rx : RAV ι h bd w x X) (e : convA P h s d x = some av) :
    ∃ v, (convert s d X).run P w = .ok v w ∧ RAV ι h bd w av v := by
  unfold convA at e
  split at e
  · rename_i k n
    have h1 := rav_v_inv rx
    subst h1
    split at e
    · rename_i k' hk
      split at e
      · rename_i hu
        injection e with e
        subst e
        obtain ⟨D, hD⟩ := Option.isSome_iff_exists.1 hu
        exact ⟨_, by simp [convert, run_underlying hD, run_underlying (intK_run hk), Conv.intToInt], rav_v _⟩
      · cases e
    · cases e
  · rename_i str
    have h1 := rav_v_inv rx
    subst h1
    split at e
    · rename_i hu
      injection e with e
      subst e
      obtain ⟨D, hD⟩ := Option.isSome_iff_exists.1 hu.1
      refine ⟨_, ?_, rav_v _⟩
      simp only [convert, Sem.run_bind, run_underlying hD, run_underlying (isStr_run hu.2), Result.andThen]
      cases D <;> rfl
    · cases e
  · have h1 := rav_v_inv rx
    subst h1
    split at e
    · rename_i hu
      obtain ⟨el, h1, h2, h3⟩ := octT_run hu
      injection e with e
      subst e
      exact ⟨_, run_convert_bytes_nil w s el h1 h2 0 0 d h3, rav_v _⟩
    · cases e
  · rename_i es
    split at e
    · rename_i hu
      obtain ⟨el, h1, h2, h3⟩ := octT_run hu
      unfold txtV at e
      cases ho : octE es with
      | none => rw [ho] at e; cases e
      | some cs =>
        rw [ho] at e
        injection e with e
        subst e
        obtain ⟨ns, rfl, rfl⟩ := octE_inv ho
        obtain ⟨a, cap, U, rfl, g1, g2, g3, g4, g5, g6⟩ := sl_inv rx
        refine ⟨_, ?_, rav_v _⟩
        rw [← strOfNums_eq]
        cases a with
        | none =>
          have : cap = 0 := g2 rfl
          have h0 : ns = [] := List.eq_nil_of_length_eq_zero (by simp only [List.length_map] at g1; omega)
          subst h0
          exact run_convert_bytes_nil w s el h1 h2 _ _ d h3
        | some A =>
          cases ns with
          | nil => exact conv_zero h1 h2 h3 A cap
          | cons n ns =>
            have hsp : A.spot = none := by
              rcases g3 A rfl with g | g
              · cases g
              · exact g
            have hA : A = ⟨A.block, A.off, none⟩ := by rw [← hsp]
            rw [hA, List.length_map]
            refine run_convert_bytes_arg w s el h1 h2 A.block A.off (n :: ns).length cap (n :: ns) rfl (fun i hi => ?_) d h3
            have he : ((n :: ns).map (fun n => [PD.v (.int .u8 n)]))[i]? = some [.v (.int .u8 ((n :: ns).getD i 0))] := by
              rw [List.getElem?_map, List.getElem?_eq_getElem hi]; simp [List.getD, List.getElem?_eq_getElem hi]
            obtain ⟨A', e1, _, e3⟩ := g5 i _ he 0 _ rfl
            injection e1 with e1
            subst e1
            have e4 := g6 i _ he 0 _ rfl
            have e5 : U i 0 = .int .u8 ((n :: ns).getD i 0) := by
              generalize U i 0 = u at e4 ⊢
              cases e4; rfl
            rw [e5] at e3
            simpa using e3
    · cases e
  · rename_i id ver off len cap
    split at e
    · rename_i b hb
      split at e
      · rename_i hu
        obtain ⟨hv, hu, hle⟩ := hu
        obtain ⟨el, h1, h2, h3⟩ := octT_run hu
        unfold txtV at e
        cases ho : octC ((b.cells.drop off).take len) with
        | none => rw [ho] at e; cases e
        | some cs =>
          rw [ho] at e
          injection e with e
          subst e
          obtain ⟨ns, hns, rfl⟩ := octC_inv ho
          have hlen : ns.length = len := by
            have := congrArg List.length hns
            simp only [List.length_take, List.length_drop, List.length_map] at this
            omega
          have hlive : liveB h id ver = true := by unfold liveB; rw [hb]; simpa using hv
          obtain ⟨_, hX⟩ := win_inv rx hlive
          refine ⟨_, ?_, rav_v _⟩
          rw [← strOfNums_eq]
          rcases hX with rfl | ⟨rfl, rfl, rfl⟩
          · cases hns2 : ns with
            | nil =>
              subst hns2
              have : len = 0 := by simpa using hlen.symm
              subst this
              exact conv_zero h1 h2 h3 _ cap
            | cons n ns' =>
              rw [← hns2]
              have hne : b.cells ≠ [] := by
                intro hz; rw [hz] at hle; rw [hns2] at hlen; simp only [List.length_cons, List.length_nil] at hlen hle; omega
              obtain ⟨c, ty, k1, k2, k3⟩ := H.blk id b hb hne
              refine run_convert_bytes_arg w s el h1 h2 (ι id) off len cap ns hlen (fun i hi => ?_) d h3
              have hcell : b.cells[off + i]? = some (.p (.v (.int .u8 (ns.getD i 0)))) := by
                have := congrArg (fun l => l[i]?) hns
                simp only [List.getElem?_take, List.getElem?_drop, if_pos hi, List.getElem?_map] at this
                rw [this, List.getElem?_eq_getElem (by omega)]
                simp [List.getD, List.getElem?_eq_getElem (show i < ns.length by omega)]
              have hlt : off + i < c.size := by rw [k2]; exact (List.getElem?_eq_some_iff.1 hcell).1
              have hcv := k3 (off + i) _ _ hcell (Array.getElem?_eq_getElem hlt)
              have : c[off + i] = .int .u8 (ns.getD i 0) := by
                generalize c[off + i] = u at hcv ⊢
                cases hcv with | p hd => cases hd; rfl
              unfold World.cell?
              rw [k1]
              simp only [Array.getElem?_eq_getElem hlt, this]
              rfl
          · have : ns = [] := List.eq_nil_of_length_eq_zero hlen
            subst this
            exact run_convert_bytes_nil w s el h1 h2 _ _ d h3
      · cases e
    · cases e
  · cases e

theorem ex_ok {x av : AV} {X : Value} {i : Nat} (rx : RAV ι h bd w x X) (e : exA x i = some av) :
    ∃ v, (Instr.extract X i).run P w = .ok v w ∧ RAV ι h bd w av v := by
  unfold exA at e
  split at e
  · rename_i vs
    cases rx with
    | tup V hl hv =>
      have hlt : i < V.length := by rw [hl]; exact (List.getElem?_eq_some_iff.1 e).1
      have hu : V[i]? = some V[i] := List.getElem?_eq_getElem hlt
      exact ⟨V[i], by simp [Instr.extract, hu], hv i av _ e hu⟩
  · cases e

theorem slE_some {t : TypeId} (he : (slE P t).isSome = true) : ∃ e, P.underlying t = some (.slice e) := by
  obtain ⟨e, h⟩ := Option.isSome_iff_exists.1 he
  exact ⟨e, slE_run h⟩

theorem len_ok {t ty : TypeId} {x av : AV} {X : Value} (rx : RAV ι h bd w x X) (e : lenA P t h x = some av) :
    ∃ v, (Builtin.len_ #[t] ty #[X]).run P w = .ok v w ∧ RAV ι h bd w av v := by
  unfold lenA at e
  split at e
  · have h1 := rav_v_inv rx
    subst h1
    split at e
    · rename_i hs
      injection e with e; subst e
      exact ⟨_, by simp [Builtin.len_, run_underlying (isStr_run hs), goInt], rav_v _⟩
    · cases e
  · have h1 := rav_v_inv rx
    subst h1
    split at e
    · rename_i hs
      injection e with e; subst e
      obtain ⟨el, hel⟩ := slE_some hs
      exact ⟨_, by simp [Builtin.len_, run_underlying hel, goInt], rav_v _⟩
    · cases e
  · rename_i sz es
    split at e
    · rename_i hs
      injection e with e; subst e
      obtain ⟨el, hel⟩ := slE_some hs
      obtain ⟨a, cap, U, rfl, _⟩ := sl_inv rx
      exact ⟨_, by simp [Builtin.len_, run_underlying hel, goInt], rav_v _⟩
    · cases e
  · split at e
    · rename_i hs
      injection e with e; subst e
      obtain ⟨el, hel⟩ := slE_some hs.2
      obtain ⟨_, hX⟩ := win_inv rx hs.1
      rcases hX with rfl | ⟨rfl, rfl, rfl⟩
      · exact ⟨_, by simp [Builtin.len_, run_underlying hel, goInt], rav_v _⟩
      · exact ⟨_, by simp [Builtin.len_, run_underlying hel, goInt], rav_v _⟩
    · cases e
  · cases e

theorem cap_ok {t ty : TypeId} {x av : AV} {X : Value} (rx : RAV ι h bd w x X) (e : capA P t h x = some av) :
    ∃ v, (Builtin.cap_ #[t] ty #[X]).run P w = .ok v w ∧ RAV ι h bd w av v := by
  unfold capA at e
  split at e
  · have h1 := rav_v_inv rx
    subst h1
    split at e
    · rename_i hs
      injection e with e; subst e
      obtain ⟨el, hel⟩ := slE_some hs
      exact ⟨_, by simp [Builtin.cap_, run_underlying hel, goInt], rav_v _⟩
    · cases e
  · split at e
    · rename_i hs
      injection e with e; subst e
      obtain ⟨el, hel⟩ := slE_some hs.2
      obtain ⟨_, hX⟩ := win_inv rx hs.1
      rcases hX with rfl | ⟨rfl, rfl, rfl⟩
      · exact ⟨_, by simp [Builtin.cap_, run_underlying hel, goInt], rav_v _⟩
      · exact ⟨_, by simp [Builtin.cap_, run_underlying hel, goInt], rav_v _⟩
    · cases e
  · cases e

theorem mm_ok {x y av : AV} {X Y : Value} (rx : RAV ι h bd w x X) (ry : RAV ι h bd w y Y) :
    (mm2 true x y = some av → ∃ v, (Builtin.max2 X Y).run P w = .ok v w ∧ RAV ι h bd w av v) ∧ (mm2 false x y = some av → ∃ v, (Builtin.min2 X Y).run P w = .ok v w ∧ RAV ι h bd w av v) := by
  constructor
  all_goals
    intro e
    unfold mm2 at e
    split at e
    · have h1 := rav_v_inv rx
      have h2 := rav_v_inv ry
      subst h1; subst h2
      split at e
      · rename_i hk
        subst hk
        injection e with e; subst e
        refine ⟨_, ?_, rav_v _⟩
        first
          | (simp only [Builtin.max2, cond_true]; show _ = Result.ok _ w; simp only [Sem.run_pure]; congr 2; rw [Int.max_def]; (repeat split) <;> omega)
          | (simp only [Builtin.min2, cond_false]; show _ = Result.ok _ w; simp only [Sem.run_pure]; congr 2; rw [Int.min_def]; (repeat split) <;> omega)
      · cases e
    · cases e

end Go.Proofs.YtengjcdilnikhaaDoor.Am

namespace Go.Proofs.YtengjcdilnikhaaDoor.Am
set_option linter.unusedSimpArgs false
set_option linter.unusedVariables false
set_option linter.unnecessarySimpa false
open Go

variable {P : Program} {ι : Nat → Nat} {h : Heap} {bd : Nat} {w : World}

theorem bound_ok {x : AV} {X : Value} (r : RAV ι h bd w x X) {y : Nat} {c : BoundsCode} {n : Nat} (e : bnd1 x y = some n) :
    (Instr.sliceBound X y c).run P w = .ok n w ∧ n ≤ y := by
  unfold bnd1 intOfA at e
  split at e
  · rename_i k i
    have h1 := int_inv r
    subst h1
    simp only [Option.bind_some] at e
    split at e
    · rename_i hc
      injection e with e
      subst e
      exact ⟨by simp [Instr.sliceBound, asIntOf, hc], by omega⟩
    · cases e
  · cases e

theorem bndA_inv {len cap : Nat} {lo hi mx : Option AV} {l u m : Nat} (e : bndA len cap lo hi mx = some (l, u, m)) : bndMx cap mx = some m ∧ bndHi len m mx.isSome hi = some u ∧ bndLo u lo = some l := by
  unfold bndA at e
  cases h1 : bndMx cap mx with
  | none => rw [h1] at e; simp at e
  | some m' =>
    rw [h1] at e
    simp only [Option.bind_some] at e
    cases h2 : bndHi len m' mx.isSome hi with
    | none => rw [h2] at e; simp at e
    | some u' =>
      rw [h2] at e
      simp only [Option.bind_some] at e
      cases h3 : bndLo u' lo with
      | none => rw [h3] at e; simp at e
      | some l' =>
        rw [h3] at e
        simp only [Option.map_some, Option.some.injEq, Prod.mk.injEq] at e
        obtain ⟨rfl, rfl, rfl⟩ := e
        exact ⟨rfl, h2, h3⟩

theorem bnd_ok {t : Nat → AV} {ρ : Operand → Value} (rel : ∀ x, RAV ι h bd w (val t x) (ρ x)) {g : Bool} {len cap : Nat} {lo hi mx : Option Operand} {l u m : Nat} (hlc : len ≤ cap)
    (e : bndA len cap (lo.map (val t)) (hi.map (val t)) (mx.map (val t)) = some (l, u, m)) :
    (Instr.sliceBounds g len cap (lo.map ρ) (hi.map ρ) (mx.map ρ)).run P w = .ok (l, u, m) w ∧ l ≤ u ∧ u ≤ m ∧ m ≤ cap := by
  obtain ⟨e1, e2, e3⟩ := bndA_inv e
  have H1 : m ≤ cap ∧ (mx = none → m = cap) ∧ (∀ x, mx = some x → ∀ c, (Instr.sliceBound (ρ x) cap c).run P w = .ok m w) := by
    cases mx with
    | none => injection e1 with e1; subst e1; exact ⟨Nat.le_refl _, fun _ => rfl, fun x hx => (by cases hx)⟩
    | some x => refine ⟨(bound_ok (P := P) (c := .index) (rel x) e1).2, fun h => (by cases h), fun y hy c => ?_⟩; injection hy with hy; subst hy; exact (bound_ok (rel x) e1).1
  have H2 : u ≤ m ∧ (∀ x, hi = some x → ∀ c, (Instr.sliceBound (ρ x) m c).run P w = .ok u w) ∧ (hi = none → mx = none ∧ u = len) := by
    cases hi with
    | none =>
      cases mx with
      | none =>
        have e2' : len = u := by simpa [bndHi] using e2
        subst e2'
        exact ⟨by rw [H1.2.1 rfl]; exact hlc, fun x hx => (by cases hx), fun _ => ⟨rfl, rfl⟩⟩
      | some y => simp [bndHi] at e2
    | some x =>
      refine ⟨(bound_ok (P := P) (c := .index) (rel x) e2).2, fun y hy c => ?_, fun h => (by cases h)⟩
      injection hy with hy; subst hy; exact (bound_ok (rel x) e2).1
  have H3 : l ≤ u ∧ (lo = none → l = 0) ∧ (∀ x, lo = some x → ∀ c, (Instr.sliceBound (ρ x) u c).run P w = .ok l w) := by
    cases lo with
    | none => injection e3 with e3; subst e3; exact ⟨Nat.zero_le _, fun _ => rfl, fun x hx => (by cases hx)⟩
    | some x => refine ⟨(bound_ok (P := P) (c := .index) (rel x) e3).2, fun h => (by cases h), fun y hy c => ?_⟩; injection hy with hy; subst hy; exact (bound_ok (rel x) e3).1
  refine ⟨?_, H3.1, H2.1, H1.1⟩
  cases mx with
  | none =>
    have hm' := H1.2.1 rfl
    subst hm'
    cases hi with
    | none =>
      have hu' := (H2.2.2 rfl).2
      subst hu'
      cases lo with
      | none => have := H3.2.1 rfl; subst this; simp [Instr.sliceBounds]
      | some z => simp [Instr.sliceBounds, H3.2.2 z rfl]
    | some y =>
      cases lo with
      | none => have := H3.2.1 rfl; subst this; simp [Instr.sliceBounds, H2.2.1 y rfl]
      | some z => simp [Instr.sliceBounds, H2.2.1 y rfl, H3.2.2 z rfl]
  | some x =>
    cases hi with
    | none => have := (H2.2.2 rfl).1; cases this
    | some y =>
      cases lo with
      | none => have := H3.2.1 rfl; subst this; simp [Instr.sliceBounds, H1.2.2 x rfl, H2.2.1 y rfl]
      | some z => simp [Instr.sliceBounds, H1.2.2 x rfl, H2.2.1 y rfl, H3.2.2 z rfl]

theorem bnd1_mono {x : AV} {y y' n : Nat} (hy : y ≤ y') (e : bnd1 x y = some n) : bnd1 x y' = some n := by
  unfold bnd1 at e ⊢
  cases hi : intOfA x with
  | none => rw [hi] at e; simp at e
  | some i =>
    rw [hi] at e
    simp only [Option.bind_some] at e ⊢
    split at e
    · rename_i hc
      rw [if_pos ⟨hc.1, by omega⟩]
      exact e
    · cases e

theorem bnd_mono {len cap cap' : Nat} {lo hi mx : Option AV} {l u m : Nat} (hc : cap ≤ cap') (e : bndA len cap lo hi mx = some (l, u, m)) : ∃ m', bndA len cap' lo hi mx = some (l, u, m') := by
  obtain ⟨e1, e2, e3⟩ := bndA_inv e
  cases mx with
  | some v =>
    refine ⟨m, ?_⟩
    have e1' : bndMx cap' (some v) = some m := bnd1_mono hc e1
    simp only [bndA, e1', Option.bind_some, e2, e3, Option.map_some]
  | none =>
    injection e1 with e1
    subst e1
    refine ⟨cap', ?_⟩
    have e2' : bndHi len cap' (none : Option AV).isSome hi = some u := by
      cases hi with
      | none => exact e2
      | some v => exact bnd1_mono hc e2
    simp only [bndA, bndMx, Option.bind_some, e2', e3, Option.map_some]

theorem slc_ok {t : Nat → AV} {ρ : Operand → Value} (rel : ∀ x, RAV ι h bd w (val t x) (ρ x)) {ty : TypeId} {x : Operand} {lo hi mx : Option Operand} {av : AV}
    (e : slcA P ty h (val t x) (lo.map (val t)) (hi.map (val t)) (mx.map (val t)) = some av) :
    ∃ v, (Instr.sliceAt ty (ρ x) (lo.map ρ) (hi.map ρ) (mx.map ρ)).run P w = .ok v w ∧ RAV ι h bd w av v := by
  have r := rel x
  generalize ρ x = X at r
  unfold slcA at e
  split at e
  · rename_i s hx
    rw [hx] at r
    split at e
    · rename_i hc
      have hX := rav_v_inv r
      subst hX
      have hmx : mx = none := by cases mx with | none => rfl | some y => simp at hc
      subst hmx
      cases hb : bndA s.size s.size (lo.map (val t)) (hi.map (val t)) none with
      | none => rw [hb] at e; simp at e
      | some q =>
        obtain ⟨l, u, m⟩ := q
        rw [hb] at e
        simp only [Option.map_some, Option.some.injEq] at e
        subst e
        have hb' := (bnd_ok (P := P) rel (g := false) (mx := none) (Nat.le_refl _) hb).1
        exact ⟨_, by simp only [Option.map_none] at hb' ⊢; simp [Instr.sliceAt, Instr.slice, run_underlying (isStr_run hc.1), hb'], rav_v _⟩
    · cases e
  · rename_i sz es hx
    rw [hx] at r
    split at e
    · rename_i z hz
      split at e
      · rename_i hzz
        subst hzz
        obtain ⟨el, hu, hs⟩ := slS_run hz
        obtain ⟨a, cap, U, rfl, g1, g2, g3, g4, g5, g6⟩ := sl_inv r
        cases hb : bndA es.length es.length (lo.map (val t)) (hi.map (val t)) (mx.map (val t)) with
        | none => rw [hb] at e; simp at e
        | some q =>
          obtain ⟨l, u, m⟩ := q
          rw [hb] at e
          simp only [Option.map_some, Option.some.injEq] at e
          subst e
          obtain ⟨m', hb2⟩ := bnd_mono g1 hb
          obtain ⟨k1, k2, k3, k4⟩ := bnd_ok (P := P) rel (g := true) g1 hb2
          have hu2 : u ≤ es.length := by
            obtain ⟨_, _, q3, q4⟩ := bnd_ok (P := P) rel (g := true) (Nat.le_refl es.length) hb
            omega
          refine ⟨.slice (if m' = l then a else a.map (·.add (l * z))) (u - l) (m' - l), ?_, ?_⟩
          · simp [Instr.sliceAt, Instr.slice, run_underlying hu, k1, tsz_run hs]
          · have hlen : ((es.drop l).take (u - l)).length = u - l := by simp; omega
            have := RPD.sl (S := stab ι h) (w := w) (sz := z) (es := (es.drop l).take (u - l)) (if m' = l then a else a.map (·.add (l * z))) (m' - l) (fun i j => U (l + i) j) (by rw [hlen]; omega)
              (fun hn => by
                split at hn
                · omega
                · cases a with
                  | none => have := g2 rfl; omega
                  | some A => simp at hn)
              (fun A hA => by
                by_cases hz0 : (es.drop l).take (u - l) = []
                · exact .inl hz0
                · have hes : es ≠ [] := fun hh => hz0 (by rw [hh]; simp)
                  right
                  split at hA
                  · exact (g3 A hA).resolve_left hes
                  · cases a with
                    | none => simp at hA
                    | some B =>
                      simp at hA
                      subst hA
                      have := (g3 B rfl).resolve_left hes
                      unfold Addr.add
                      split <;> simp_all)
              (fun e he => g4 e (List.mem_of_mem_drop (List.mem_of_mem_take he)))
              (fun i e he j d hd => by
                have hi : i < u - l := by
                  rcases Nat.lt_or_ge i (u - l) with h' | h'
                  · exact h'
                  · rw [List.getElem?_take, if_neg (by omega)] at he; cases he
                rw [List.getElem?_take, if_pos hi, List.getElem?_drop] at he
                obtain ⟨A, hA, q1, q2⟩ := g5 _ e he j d hd
                subst hA
                have hsp := (g3 A rfl).resolve_left (fun hh => by rw [hh] at he; simp at he)
                have hne : ¬ m' = l := by omega
                rw [if_neg hne]
                refine ⟨⟨A.block, A.off + l * z, none⟩, ?_, q1, ?_⟩
                · simp only [Option.map_some]; rw [addr_eta hsp, add_none]
                · show w.cell? ⟨A.block, A.off + l * z + (i * z + j), none⟩ = _
                  rw [← q2]
                  congr 2
                  rw [Nat.add_mul]; omega)
              (fun i e he j d hd => by
                have hi : i < u - l := by
                  rcases Nat.lt_or_ge i (u - l) with h' | h'
                  · exact h'
                  · rw [List.getElem?_take, if_neg (by omega)] at he; cases he
                rw [List.getElem?_take, if_pos hi, List.getElem?_drop] at he
                exact g6 _ e he j d hd)
            rw [hlen] at this
            exact .one (.p this)
      · cases e
    · cases e
  · rename_i id ver off len cap hx
    rw [hx] at r
    split at e
    · rename_i z hz
      split at e
      · rename_i hl
        obtain ⟨el, hu, hs⟩ := slS_run hz
        obtain ⟨hlc, hX⟩ := win_inv r hl
        cases hb : bndA len cap (lo.map (val t)) (hi.map (val t)) (mx.map (val t)) with
        | none => rw [hb] at e; simp at e
        | some q =>
          obtain ⟨l, u, m⟩ := q
          rw [hb] at e
          simp only [Option.map_some, Option.some.injEq] at e
          subst e
          obtain ⟨k1, k2, k3, k4⟩ := bnd_ok (P := P) rel (g := true) hlc hb
          rcases hX with rfl | ⟨rfl, rfl, rfl⟩
          · refine ⟨.slice (some (if m = l then ⟨ι id, off, none⟩ else ⟨ι id, off + l * z, none⟩)) (u - l) (m - l), ?_, ?_⟩
            · simp only [Instr.sliceAt, Instr.slice, Sem.run_bind, run_underlying hu, Result.andThen, k1, tsz_run hs, Sem.run_pure, Option.map_some, add_none]
              split <;> rfl
            · refine .one (.win (win_hd r).1 (win_hd r).2 (fun _ _ _ => ⟨by omega, .inl ?_⟩))
              split <;> rfl
          · have hm : m = 0 := by omega
            have hu0 : u = 0 := by omega
            have hl0 : l = 0 := by omega
            subst hm; subst hu0; subst hl0
            refine ⟨.slice none 0 0, ?_, .one (.win (win_hd r).1 (win_hd r).2 (fun _ _ _ => ⟨by omega, .inr ⟨rfl, rfl, rfl⟩⟩))⟩
            simp [Instr.sliceAt, Instr.slice, run_underlying hu, k1, tsz_run hs]
      · cases e
    · cases e
  · rename_i id ver off hx
    rw [hx] at r
    split at e
    · rename_i n z hz
      split at e
      · rename_i hl
        obtain ⟨el, hu, hs⟩ := arS_run hz
        obtain ⟨b, hb', hv⟩ := live_run hl
        have hX := ptr_inv r hb' hv
        subst hX
        cases hb : bndA n n (lo.map (val t)) (hi.map (val t)) (mx.map (val t)) with
        | none => rw [hb] at e; simp at e
        | some q =>
          obtain ⟨l, u, m⟩ := q
          rw [hb] at e
          simp only [Option.map_some, Option.some.injEq] at e
          subst e
          obtain ⟨k1, k2, k3, k4⟩ := bnd_ok (P := P) rel (g := false) (Nat.le_refl n) hb
          refine ⟨.slice (some (if m = l then ⟨ι id, off, none⟩ else ⟨ι id, off + l * z, none⟩)) (u - l) (m - l), ?_, ?_⟩
          · simp only [Instr.sliceAt, Sem.run_bind, run_underlying hu, Instr.sureAddr, Result.andThen, k1, tsz_run hs, Sem.run_pure, add_none]
          · refine .one (.win (ptr_hd r).1 (ptr_hd r).2 (fun _ _ _ => ⟨by omega, .inl ?_⟩))
            split <;> rfl
      · cases e
    · cases e
  · cases e

end Go.Proofs.YtengjcdilnikhaaDoor.Am

namespace Go.Proofs.YtengjcdilnikhaaDoor.Am
set_option linter.unusedSimpArgs false
set_option linter.unusedVariables false
set_option linter.unnecessarySimpa false
open Go

variable {P : Program} {ι : Nat → Nat} {h : Heap} {bd : Nat} {w : World}

def Reps (ι : Nat → Nat) (h : Heap) (bd : Nat) (w : World) (cs : List Cell) (V : List Value) : Prop :=
  V.length = cs.length ∧ ∀ (i : Nat) (c : Cell) (u : Value), cs[i]? = some c → V[i]? = some u → RCell ι h bd w c u

theorem foldl_set (off : Nat) : ∀ (vs : List Value) (k : Nat) (cells : Array Value), off + k + vs.length ≤ cells.size →
    ((vs.zipIdx k).foldl (fun cs (x : Value × Nat) => cs.setIfInBounds (off + x.2) x.1) cells).toList = cells.toList.take (off + k) ++ (vs ++ cells.toList.drop (off + k + vs.length))
  | [], k, cells, _ => by simp
  | v :: vs, k, cells, hle => by
    simp only [List.length_cons] at hle
    rw [List.zipIdx_cons, List.foldl_cons, foldl_set off vs (k + 1) _ (by simp; omega)]
    have hlt : off + k < cells.toList.length := by simp; omega
    simp only [Array.toList_setIfInBounds, List.length_cons]
    apply List.ext_getElem?
    intro i
    simp only [List.getElem?_append, List.length_take, List.length_set, List.getElem?_take, List.getElem?_set, List.getElem?_cons, List.length_cons, List.getElem?_drop]
    have hl : cells.toList.length = cells.size := by simp
    rw [hl]
    by_cases h1 : i < off + k
    · have : off + k ≠ i := by omega
      simp [show i < min (off + (k + 1)) cells.size by omega, show i < min (off + k) cells.size by omega, show i < off + (k + 1) by omega, h1, this]
    · by_cases h2 : i = off + k
      · subst h2
        simp [show off + k < min (off + (k + 1)) cells.size by omega, show ¬ off + k < min (off + k) cells.size by omega, show off + k < off + (k + 1) by omega, show off + k - min (off + k) cells.size = 0 by omega]
        omega
      · have e1 : ¬ i < min (off + (k + 1)) cells.size := by omega
        have e2 : ¬ i < min (off + k) cells.size := by omega
        have e3 : i - min (off + k) cells.size = (i - min (off + (k + 1)) cells.size) + 1 := by omega
        simp only [e1, e2, if_false, e3]
        by_cases h3 : i - min (off + (k + 1)) cells.size < vs.length
        · simp [h3]
        · have : off + (k + 1) + vs.length + (i - min (off + (k + 1)) cells.size - vs.length) = off + k + (vs.length + 1) + (i - min (off + (k + 1)) cells.size + 1 - (vs.length + 1)) := by omega
          simp [h3, show ¬ off + k = off + (k + 1) + vs.length + (i - min (off + (k + 1)) cells.size - vs.length) by omega]
          congr 1
          omega

theorem Reps.spl {cs d : List Cell} {V D : List Value} {off : Nat} (r : Reps ι h bd w cs V) (q : Reps ι h bd w d D) (hle : off + d.length ≤ cs.length) :
    Reps ι h bd w (spl cs off d) (V.take off ++ (D ++ V.drop (off + D.length))) := by
  obtain ⟨hl, hv⟩ := r
  obtain ⟨ql, qv⟩ := q
  refine ⟨by simp [Am.spl, hl, ql], fun i c u hc hu => ?_⟩
  unfold Am.spl at hc
  simp only [List.getElem?_append, List.length_take, List.getElem?_take, List.getElem?_drop, hl, ql] at hc hu
  split at hc
  · rename_i h1
    rw [if_pos h1] at hu
    rw [if_pos (by omega)] at hc hu
    exact hv i c u hc hu
  · rename_i h1
    rw [if_neg h1] at hu
    split at hc
    · rename_i h2
      rw [if_pos h2] at hu
      exact qv _ c u hc hu
    · rename_i h2
      rw [if_neg h2] at hu
      exact hv _ c u hc hu

theorem okC_run {c : Cell} {v : Value} (r : RCell ι h bd w c v) (ok : okC h c = true) : v.oneCell' = true ∧ v.cells = #[v] := by
  cases r with
  | p hd => cases hd with
    | v x => refine ⟨ok, ?_⟩; cases v <;> first | rfl | (simp [okC, Value.oneCell'] at ok)
    | sl a cap U => exact ⟨rfl, rfl⟩
    | slc h => exact ⟨rfl, rfl⟩
  | junk v => cases ok
  | ptr hid hver hv =>
    obtain ⟨b, hb, he⟩ := live_run ok
    have := hv b hb he
    subst this
    exact ⟨rfl, rfl⟩
  | ro A U => exact ⟨rfl, rfl⟩
  | win hid hver hv =>
    obtain ⟨b, hb, he⟩ := live_run ok
    rcases (hv b hb he).2 with rfl | ⟨rfl, _⟩ <;> exact ⟨rfl, rfl⟩
  | clo F C => exact ⟨rfl, rfl⟩

theorem reps_one {c : Cell} {v : Value} (r : RCell ι h bd w c v) : Reps ι h bd w [c] [v] := by
  refine ⟨rfl, fun i d u hd hu => ?_⟩
  cases i with
  | zero => simp at hd hu; subst hd; subst hu; exact r
  | succ i => simp at hd

/-- the cells of a value -/
theorem reps_cells {x : AV} {X : Value} (r : RAV ι h bd w x X) (ok : ∀ c, x = .one c → okC h c = true) (ht : ∀ vs, x ≠ .tup vs) : Reps ι h bd w (cellsA x) X.cells.toList := by
  cases r with
  | one hc => rw [(okC_run hc (ok _ rfl)).2]; exact reps_one hc
  | agg V hl hv => exact ⟨hl, hv⟩
  | tup V hl hv => exact absurd rfl (ht _)

theorem fill_ok {place : Nat → Option (Nat × Nat)} : ∀ (parts : List (Nat × AV)) (PV : List (Nat × Value)), PV.length = parts.length →
    (∀ (k i : Nat) (x : AV), parts[k]? = some (i, x) → ∃ X, PV[k]? = some (i, X) ∧ RAV ι h bd w x X) →
    ∀ (cs : List Cell) (V : Array Value), Reps ι h bd w cs V.toList → ∀ cs', fillA h place cs parts = some cs' → ∃ V', Instr.fill place V PV = some V' ∧ Reps ι h bd w cs' V'.toList
  | [], PV, hl, _, cs, V, r, cs', e => by
    have : PV = [] := List.eq_nil_of_length_eq_zero hl
    subst this
    injection e with e
    subst e
    exact ⟨V, rfl, r⟩
  | (i, x) :: rest, PV, hl, hp, cs, V, r, cs', e => by
    obtain ⟨X, hX, rx⟩ := hp 0 i x rfl
    cases PV with
    | nil => simp at hX
    | cons p PV =>
      simp at hX
      subst hX
      have hp' : ∀ (k i : Nat) (x : AV), rest[k]? = some (i, x) → ∃ X, PV[k]? = some (i, X) ∧ RAV ι h bd w x X := fun k i x hk => hp (k + 1) i x (by simpa using hk)
      have hl' : PV.length = rest.length := by simpa using hl
      have main : ∀ (off size : Nat) (d : List Cell), place i = some (off, size) → Reps ι h bd w d X.cells.toList → d.length = size → off + d.length ≤ cs.length → fillA h place (spl cs off d) rest = some cs' →
          ∃ V', Instr.fill place V ((i, X) :: PV) = some V' ∧ Reps ι h bd w cs' V'.toList := by
        intro off size d hpl q hs hle e'
        have hq := q.1
        have hr := r.1
        simp only [Array.length_toList] at hq hr
        have hf : X.cells.zipIdx.foldl (fun cs (c, j) => cs.setIfInBounds (off + j) c) V = (V.toList.take off ++ (X.cells.toList ++ V.toList.drop (off + X.cells.toList.length))).toArray := by
          apply Array.ext'
          have := foldl_set off X.cells.toList 0 V (by simp; omega)
          rw [← Array.foldl_toList, Array.toList_zipIdx]
          simpa using this
        have q2 := Reps.spl r q hle
        obtain ⟨V', h1, h2⟩ := fill_ok rest PV hl' hp' _ (V.toList.take off ++ (X.cells.toList ++ V.toList.drop (off + X.cells.toList.length))).toArray (by simpa using q2) cs' e'
        refine ⟨V', ?_, h2⟩
        unfold Instr.fill
        simp only [hpl]
        have hc : (decide (X.cells.size ≠ size) || decide (off + X.cells.size > V.size)) = false := by simp; omega
        rw [hc, hf]
        exact h1
      unfold fillA at e
      split at e
      · rename_i off size hpl
        split at e
        · rename_i c
          split at e
          · rename_i hc
            refine main off size [c] hpl (reps_cells rx (fun c' h' => by injection h' with h'; subst h'; exact hc.1) (fun _ h' => by cases h')) hc.2.1.symm hc.2.2 e
          · cases e
        · rename_i d
          split at e
          · rename_i hc
            exact main off size d hpl (reps_cells rx (fun c' h' => by cases h') (fun _ h' => by cases h')) hc.1 hc.2 e
          · cases e
        · cases e
      · cases e

theorem reps_vs (vs : List Value) : Reps ι h bd w (vs.map fun v => .p (.v v)) vs := by
  refine ⟨by simp, fun i c u hc hu => ?_⟩
  rw [List.getElem?_map, hu] at hc
  simp at hc
  subst hc
  exact .p (.v u)

theorem tzero_run {t : TypeId} {zs : List Value} (e : tzero P t = some zs) : ∃ i z, P.info? t = some i ∧ i.zero = some z ∧ z.cells.toList = zs := by
  unfold tzero at e
  cases hi : P.info? t with
  | none => rw [hi] at e; simp at e
  | some i =>
    cases hz : i.zero with
    | none => rw [hi] at e; simp [hz] at e
    | some z => rw [hi] at e; simp [hz] at e; exact ⟨i, z, rfl, hz, e⟩

theorem tsz_info {t : TypeId} {n : Nat} (e : tsz P t = some n) : ∃ i, P.info? t = some i ∧ i.size = n := by
  unfold tsz at e
  cases hi : P.info? t with
  | none => rw [hi] at e; simp at e
  | some i => rw [hi] at e; simp at e; exact ⟨i, rfl, e⟩

theorem bld_ok {t : Nat → AV} {ρ : Operand → Value} (rel : ∀ x, RAV ι h bd w (val t x) (ρ x)) {ty : TypeId} {parts : Array (Nat × Operand)} {av : AV}
    (e : bldA P h ty (parts.toList.map fun (i, x) => (i, val t x)) = some av) :
    ∃ v, (Instr.build ty (parts.map fun (i, x) => (i, ρ x))).run P w = .ok v w ∧ RAV ι h bd w av v := by
  have hp : ∀ (k i : Nat) (x : AV), (parts.toList.map fun (i, x) => (i, val t x))[k]? = some (i, x) → ∃ X, ((parts.map fun (i, x) => (i, ρ x)).toList)[k]? = some (i, X) ∧ RAV ι h bd w x X := by
    intro k i x hk
    rw [List.getElem?_map] at hk
    cases hq : parts.toList[k]? with
    | none => rw [hq] at hk; simp at hk
    | some q =>
      obtain ⟨j, y⟩ := q
      rw [hq] at hk
      simp at hk
      obtain ⟨rfl, rfl⟩ := hk
      exact ⟨ρ y, by rw [Array.toList_map, List.getElem?_map, hq]; rfl, rel y⟩
  have hlen : ((parts.map fun (i, x) => (i, ρ x)).toList).length = (parts.toList.map fun (i, x) => (i, val t x)).length := by simp
  unfold bldA at e
  split at e
  · rename_i zs hz
    obtain ⟨it, z, hi, hiz, hzs⟩ := tzero_run hz
    have hz0 : Reps ι h bd w (zs.map fun v => .p (.v v)) z.cells.toList := by rw [hzs]; exact reps_vs zs
    split at e
    · rename_i n sz har
      obtain ⟨el, hu, hs⟩ := arS_run har
      obtain ⟨ie, hie, hies⟩ := tsz_info hs
      cases hf : fillA h (fun i => some (i * sz, sz)) (zs.map fun v => .p (.v v)) (parts.toList.map fun (i, x) => (i, val t x)) with
      | none => rw [hf] at e; simp at e
      | some cs' =>
        rw [hf] at e
        simp only [Option.map_some, Option.some.injEq] at e
        subst e
        obtain ⟨V', h1, h2⟩ := fill_ok _ _ hlen hp _ _ hz0 cs' hf
        refine ⟨.agg V', run_build w ty _ V' ?_, .agg V'.toList h2.1 h2.2⟩
        unfold Program.built
        rw [hi, hu]
        simp only [hiz, hie, hies]
        exact h1
    · split at e
      · rename_i pl hpl
        unfold stPl at hpl
        split at hpl
        · rename_i fs hu
          cases hf : fillA h (pl[·]?) (zs.map fun v => .p (.v v)) (parts.toList.map fun (i, x) => (i, val t x)) with
          | none => rw [hf] at e; simp at e
          | some cs' =>
            rw [hf] at e
            simp only [Option.map_some, Option.some.injEq] at e
            subst e
            obtain ⟨V', h1, h2⟩ := fill_ok _ _ hlen hp _ _ hz0 cs' hf
            refine ⟨.agg V', run_build w ty _ V' ?_, .agg V'.toList h2.1 h2.2⟩
            unfold Program.built
            rw [hi, hu]
            simp only [hiz, hpl]
            simpa using h1
        · cases hpl
      · cases e
  · cases e

theorem cellOnes_ok {t : Nat → AV} {ρ : Operand → Value} (rel : ∀ x, RAV ι h bd w (val t x) (ρ x)) : ∀ (xs : List Operand) (cs : List Cell), cellOnes (xs.map (val t)) = some cs → Reps ι h bd w cs (xs.map ρ)
  | [], cs, e => by injection e with e; subst e; exact ⟨rfl, fun _ _ _ hh => by simp at hh⟩
  | x :: xs, cs, e => by
    simp only [List.map_cons] at e
    have r := rel x
    generalize val t x = a at r e
    cases a with
    | one c =>
      simp only [cellOnes] at e
      cases hr : cellOnes (xs.map (val t)) with
      | none => rw [hr] at e; simp at e
      | some cs' =>
        rw [hr] at e
        simp at e
        subst e
        have ih := cellOnes_ok rel xs cs' hr
        refine ⟨by simp [ih.1], fun i d u hd hu => ?_⟩
        cases i with
        | zero => simp at hd hu; subst hd; subst hu; cases r with | one hc => exact hc
        | succ i => exact ih.2 i d u (by simpa using hd) (by simpa using hu)
    | agg cs => simp [cellOnes] at e
    | tup vs => simp [cellOnes] at e

def constsOf (xs : Array Operand) : Array Bool := xs.map fun | .const _ => true | _ => false

theorem callee_builtin (ρ : Operand → Value) (b : Builtin) (xs : Array Operand) (tys : Array TypeId) (dst : Option Tmp) (ty : TypeId) (pos : String) (after : Array Edge) (guard : Option (Nat × Bool)) :
    execOp ρ ⟨dst, .call ⟨.builtin b, xs, tys⟩, ty, pos, after, guard⟩ = builtin b tys ty (constsOf xs) (xs.map ρ) := by
  simp only [execOp, resolve, invoke]
  rfl

end Go.Proofs.YtengjcdilnikhaaDoor.Am

namespace Go.Proofs.YtengjcdilnikhaaDoor.Am
set_option linter.unusedSimpArgs false
set_option linter.unusedVariables false
set_option linter.unnecessarySimpa false
open Go

theorem mkIf_ok {P : Program} {ι : Nat → Nat} {h : Heap} {bd : Nat} {w : World} {t : TypeId} {x av : AV} {X : Value} (rx : RAV ι h bd w x X) (e : mkIf P t x = some av) :
    ∃ v, (Instr.makeInterface t X).run P w = .ok v w ∧ RAV ι h bd w av v := by
  have hc : isCon P t = true → ∀ V, (Instr.makeInterface t V).run P w = .ok (.iface t V) w := by
    intro hc V
    unfold isCon at hc
    split at hc
    · cases hc
    · rename_i D hn hD
      simp only [Instr.makeInterface, Sem.run_bind, run_underlying hD, Result.andThen]
      cases D <;> first | rfl | exact absurd rfl (hn _)
    · cases hc
  unfold mkIf at e
  split at e
  · have h1 := rav_v_inv rx
    subst h1
    split at e
    · rename_i h; injection e with e; subst e; exact ⟨_, hc h _, rav_v _⟩
    · cases e
  · split at e
    · rename_i h
      injection e with e; subst e
      cases rx with
      | agg V hl hv =>
        obtain rfl : V = [] := List.eq_nil_of_length_eq_zero hl
        exact ⟨_, hc h _, rav_v _⟩
    · cases e
  · cases e

theorem tas_ok {P : Program} {ι : Nat → Nat} {h : Heap} {bd : Nat} {w : World} {t xt : TypeId} {ok : Bool} {x av : AV} {X : Value} (rx : RAV ι h bd w x X) (e : tasA P x t ok = some av) :
    ∃ v, (Instr.typeAssert X xt t ok).run P w = .ok v w ∧ RAV ι h bd w av v := by
  unfold tasA at e
  split at e
  · rename_i u v
    have h1 := rav_v_inv rx
    subst h1
    split at e
    · rename_i hc
      obtain ⟨hc, rfl, rfl⟩ := hc
      injection e with e; subst e
      refine ⟨.tuple #[v, .bool true], ?_, ?_⟩
      · unfold isCon at hc
        split at hc
        · cases hc
        · rename_i D hn hD
          simp only [Instr.typeAssert, Sem.run_bind, run_underlying hD, Result.andThen]
          cases D <;> first | rfl | (simp; rfl) | exact absurd rfl (hn _)
        · cases hc
      · refine .tup [v, .bool true] rfl (fun i c u hc hu => ?_)
        match i with
        | 0 => simp at hc hu; subst hc; subst hu; exact rav_ofV _
        | 1 => simp at hc hu; subst hc; subst hu; exact rav_v _
        | i + 2 => simp at hc
    · cases e
  · cases e

theorem sop_ok {P : Program} {ι : Nat → Nat} {h : Heap} {bd : Nat} {w : World} {t : Nat → AV} {ρ : Operand → Value} (rel : ∀ x, RAV ι h bd w (val t x) (ρ x)) (H : HeapOK ι h bd w) {o : Oper} {av : AV}
    (e : sop P t h o = some av) : ∃ v, (execOp ρ o).run P w = .ok (.value v) w ∧ RAV ι h bd w av v := by
  have vv : ∀ {s : Sem Value} {v : Value}, s.run P w = .ok v w → (do pure (.value (← s)) : Sem Next).run P w = .ok (.value v) w := by
    intro s v hs
    simp only [Sem.run_bind, hs, Result.andThen, Sem.run_pure]
  obtain ⟨dst, op, ty, pos, after, guard⟩ := o
  unfold sop at e
  simp only at e
  split at e
  · injection e with e; subst e; exact ⟨_, rfl, rel _⟩
  · injection e with e; subst e; exact ⟨_, rfl, rel _⟩
  · rename_i c a b
    have rc := rel c
    split at e
    · rename_i g hg
      rw [hg] at rc
      have hc := rav_v_inv rc
      injection e with e
      subst e
      refine ⟨if g then ρ a else ρ b, ?_, ?_⟩
      · simp only [execOp, hc, asBool, Sem.run_bind, Sem.run_pure, Result.andThen]
      · cases g
        · exact rel b
        · exact rel a
    · cases e
  · obtain ⟨v, h1, h2⟩ := ld_ok (P := P) H (rel _) e; exact ⟨v, vv h1, h2⟩
  · obtain ⟨v, h1, h2⟩ := fld_ok (P := P) (rel _) e; exact ⟨v, vv h1, h2⟩
  · obtain ⟨v, h1, h2⟩ := field_ok (P := P) (rel _) e; exact ⟨v, vv h1, h2⟩
  · obtain ⟨v, h1, h2⟩ := idx_ok (P := P) (rel _) (rel _) e; exact ⟨v, vv h1, h2⟩
  · obtain ⟨v, h1, h2⟩ := idxV_ok (P := P) (rel _) (rel _) e; exact ⟨v, vv h1, h2⟩
  · obtain ⟨v, h1, h2⟩ := bin_ok (P := P) (rel _) (rel _) e; exact ⟨v, vv h1, h2⟩
  · obtain ⟨v, h1, h2⟩ := un_ok (P := P) (rel _) e; exact ⟨v, vv h1, h2⟩
  · obtain ⟨v, h1, h2⟩ := conv_ok (P := P) H (rel _) e; exact ⟨v, vv h1, h2⟩
  · obtain ⟨v, h1, h2⟩ := slc_ok (P := P) rel e; exact ⟨v, vv h1, h2⟩
  · obtain ⟨v, h1, h2⟩ := ex_ok (P := P) (rel _) e; exact ⟨v, vv h1, h2⟩
  · rename_i x
    have rx := rel x
    unfold nilV at e
    split at e
    · rename_i id ver off hg
      rw [hg] at rx
      split at e
      · rename_i hl
        injection e with e; subst e
        obtain ⟨b, hb, hv⟩ := live_run hl
        have hX := ptr_inv rx hb hv
        exact ⟨ρ x, by simp only [execOp, hX]; rfl, rx⟩
      · cases e
    · rename_i cs hg
      rw [hg] at rx
      injection e with e; subst e
      obtain ⟨A, U, hX, _⟩ := ro_inv rx
      exact ⟨ρ x, by simp only [execOp, hX]; rfl, rx⟩
    · rename_i f a b hg
      rw [hg] at rx
      injection e with e; subst e
      refine ⟨ρ x, ?_, rx⟩
      have hX : ∃ F C, ρ x = .func (.func f) F C := by
        revert rx
        generalize ρ x = X
        intro rx
        cases rx with
        | one hc => cases hc with | clo F C hF hC h1 h2 => exact ⟨_, _, rfl⟩
      obtain ⟨F, C, hX⟩ := hX
      simp only [execOp, hX]; rfl
    · cases e
  · obtain ⟨v, h1, h2⟩ := mkIf_ok (P := P) (rel _) e; exact ⟨v, vv h1, h2⟩
  · obtain ⟨v, h1, h2⟩ := tas_ok (P := P) (rel _) e; exact ⟨v, vv h1, h2⟩
  · obtain ⟨v, h1, h2⟩ := bld_ok (P := P) rel e; exact ⟨v, vv h1, h2⟩
  · rename_i fn first cap
    split at e
    · rename_i a b ha hb
      injection e with e; subst e
      have r1 := cellOnes_ok rel _ _ ha
      have r2 := cellOnes_ok rel _ _ hb
      refine ⟨.func fn (first.map ρ) (cap.map ρ), rfl, ?_⟩
      have := RAV.one (RCell.clo (ι := ι) (h := h) (bd := bd) (w := w) (fn := fn) (first := a) (cap := b) _ _ r1.1 r2.1 r1.2 r2.2)
      have e1 : (List.map ρ first.toList).toArray = Array.map ρ first := by apply Array.ext'; simp
      have e2 : (List.map ρ cap.toList).toArray = Array.map ρ cap := by apply Array.ext'; simp
      rw [e1, e2] at this
      exact this
    · cases e
  · rename_i xs tys
    rw [callee_builtin]
    split at e
    · rename_i x t1 hx ht
      have hx' : xs = #[x] := by rw [← Array.toList_inj]; exact hx
      have ht' : tys = #[t1] := by rw [← Array.toList_inj]; exact ht
      subst hx'; subst ht'
      have hm : Array.map ρ #[x] = #[ρ x] := by simp
      rw [hm]
      obtain ⟨v, h1, h2⟩ := len_ok (P := P) (ty := ty) (rel x) e
      exact ⟨v, vv h1, h2⟩
    · cases e
  · rename_i xs tys
    rw [callee_builtin]
    split at e
    · rename_i x t1 hx ht
      have hx' : xs = #[x] := by rw [← Array.toList_inj]; exact hx
      have ht' : tys = #[t1] := by rw [← Array.toList_inj]; exact ht
      subst hx'; subst ht'
      have hm : Array.map ρ #[x] = #[ρ x] := by simp
      rw [hm]
      obtain ⟨v, h1, h2⟩ := cap_ok (P := P) (ty := ty) (rel x) e
      exact ⟨v, vv h1, h2⟩
    · cases e
  · rename_i xs tys
    rw [callee_builtin]
    split at e
    · rename_i x y hx
      have hx' : xs = #[x, y] := by rw [← Array.toList_inj]; exact hx
      subst hx'
      have hm : Array.map ρ #[x, y] = #[ρ x, ρ y] := by simp
      rw [hm]
      obtain ⟨v, h1, h2⟩ := (mm_ok (P := P) (rel x) (rel y)).2 e
      refine ⟨v, vv (s := Builtin.min_ tys ty #[ρ x, ρ y]) ?_, h2⟩
      simp only [Builtin.min_, List.foldlM_cons, List.foldlM_nil, Sem.run_bind, h1, Result.andThen, Sem.run_pure]
    · cases e
  · rename_i xs tys
    rw [callee_builtin]
    split at e
    · rename_i x y hx
      have hx' : xs = #[x, y] := by rw [← Array.toList_inj]; exact hx
      subst hx'
      have hm : Array.map ρ #[x, y] = #[ρ x, ρ y] := by simp
      rw [hm]
      obtain ⟨v, h1, h2⟩ := (mm_ok (P := P) (rel x) (rel y)).1 e
      refine ⟨v, vv (s := Builtin.max_ tys ty #[ρ x, ρ y]) ?_, h2⟩
      simp only [Builtin.max_, List.foldlM_cons, List.foldlM_nil, Sem.run_bind, h1, Result.andThen, Sem.run_pure]
    · cases e
  · cases e

end Go.Proofs.YtengjcdilnikhaaDoor.Am
