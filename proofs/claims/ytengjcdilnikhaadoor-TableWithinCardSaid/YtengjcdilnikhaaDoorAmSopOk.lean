/-
  The abstract machine: operations that only compute and read do what is told of them.
-/
import Derived.Test.YtengjcdilnikhaaDoorAmSop
namespace Go.Proofs.YtengjcdilnikhaaDoor.Am
set_option linter.unusedSimpArgs false
set_option linter.unusedVariables false
set_option linter.unnecessarySimpa false
open Go

variable {P : Program} {ι : Nat → Nat} {h : Heap} {bd : Nat} {w : World}

theorem tsz_run {t : TypeId} {n : Nat} (e : tsz P t = some n) : (sizeOf t).run P w = .ok n w := by
  unfold tsz at e
  cases hi : P.info? t with
  | none => rw [hi] at e; simp at e
  | some i => rw [hi] at e; simp at e; simp [sizeOf, typeInfo, hi, e]

theorem tagg_run {t : TypeId} {g : Bool} (e : tagg P t = some g) : (isAgg t).run P w = .ok g w := by
  unfold tagg at e
  cases hi : P.underlying t with
  | none => rw [hi] at e; simp at e
  | some i =>
    rw [hi] at e
    cases i <;> simp at e <;> subst e <;> simp [isAgg, run_underlying hi]

theorem slE_run {t e : TypeId} (he : slE P t = some e) : P.underlying t = some (.slice e) := by
  unfold slE at he
  split at he
  · rename_i h; injection he with he; subst he; exact h
  · cases he

theorem slS_run {t : TypeId} {z : Nat} (he : slS P t = some z) : ∃ e, P.underlying t = some (.slice e) ∧ tsz P e = some z := by
  unfold slS at he
  cases h : slE P t with
  | none => rw [h] at he; simp at he
  | some e => rw [h] at he; exact ⟨e, slE_run h, by simpa using he⟩

theorem arE_run {t e : TypeId} {n : Nat} (he : arE P t = some (n, e)) : P.underlying t = some (.array n e) := by
  unfold arE at he
  split at he
  · rename_i h; simp only [Option.some.injEq, Prod.mk.injEq] at he; obtain ⟨rfl, rfl⟩ := he; exact h
  · cases he

theorem arS_run {t : TypeId} {n z : Nat} (he : arS P t = some (n, z)) : ∃ e, P.underlying t = some (.array n e) ∧ tsz P e = some z := by
  unfold arS at he
  cases h : arE P t with
  | none => rw [h] at he; simp at he
  | some x =>
    obtain ⟨m, e⟩ := x
    rw [h] at he
    simp only [Option.bind_some] at he
    cases h2 : tsz P e with
    | none => rw [h2] at he; simp at he
    | some z' =>
      rw [h2] at he
      simp only [Option.map_some, Option.some.injEq, Prod.mk.injEq] at he
      obtain ⟨rfl, rfl⟩ := he
      exact ⟨e, arE_run h, h2⟩

theorem isStr_run {t : TypeId} (he : isStr P t = true) : P.underlying t = some .string := by
  unfold isStr at he
  split at he
  · assumption
  · cases he

theorem fldT_run {t u : TypeId} {f o : Nat} (he : fldT P t f = some (u, o)) : ∃ fs x, P.underlying t = some (.struct fs) ∧ fs[f]? = some x ∧ x.type = u ∧ x.offset = o := by
  unfold fldT at he
  split at he
  · rename_i fs h
    cases hx : fs[f]? with
    | none => rw [hx] at he; simp at he
    | some x => rw [hx] at he; simp at he; exact ⟨fs, x, h, hx, he.1, he.2⟩
  · cases he

theorem fldO_run {t : TypeId} {f o : Nat} (he : fldO P t f = some o) : ∃ fs x n, P.underlying t = some (.struct fs) ∧ fs[f]? = some x ∧ tsz P x.type = some (n + 1) ∧ x.offset = o := by
  unfold fldO at he
  split at he
  · rename_i fs h
    split at he
    · rename_i x hx
      split at he
      · rename_i n hn; injection he with he; exact ⟨fs, x, n, h, hx, hn, he⟩
      · cases he
    · cases he
  · cases he

theorem add_none (b o n : Nat) : Addr.add ⟨b, o, none⟩ n = ⟨b, o + n, none⟩ := Addr.add_lit b o n

theorem loadVar_ok {cs : List Cell} {blk B off : Nat} (hc : ∀ (j : Nat) (d : Cell), cs[j]? = some d → ∃ u, w.cell? ⟨blk, B + j, none⟩ = some u ∧ RCell ι h bd w d u)
    {t : TypeId} {av : AV} (e : partA P t cs off = some av) : ∃ v, (loadVar t ⟨blk, B + off, none⟩).run P w = .ok v w ∧ RAV ι h bd w av v := by
  unfold partA at e
  split at e
  · rename_i hg
    split at e
    · rename_i n hn
      split at e
      · rename_i hle
        injection e with e
        subst e
        have hcell : ∀ j, j < n → w.cell? ((⟨blk, B + off, none⟩ : Addr).add j) = some ((w.cell? ⟨blk, B + off + j, none⟩).getD undef) := by
          intro j hj
          obtain ⟨u, hu, _⟩ := hc (off + j) _ (List.getElem?_eq_getElem (by omega))
          rw [add_none, Nat.add_assoc, hu]; rfl
        refine ⟨.agg ((List.range n).map fun j => (w.cell? ⟨blk, B + off + j, none⟩).getD undef).toArray, ?_, ?_⟩
        · simp only [loadVar, Sem.run_bind, tagg_run hg, Result.andThen, if_true, tsz_run hn, run_loadCells w _ n _ hcell, Sem.run_pure]
        · refine .agg _ (by simp; omega) (fun i c u hci hu => ?_)
          simp only [List.getElem?_map] at hu
          have hi : i < n := by
            rcases Nat.lt_or_ge i n with h' | h'
            · exact h'
            · rw [List.getElem?_eq_none (by simpa using h')] at hu; cases hu
          rw [List.getElem?_take, if_pos hi, List.getElem?_drop] at hci
          obtain ⟨u', hu', hr⟩ := hc (off + i) c hci
          simp [hi, Nat.add_assoc, hu'] at hu
          subst hu
          exact hr
      · cases e
    · cases e
  · rename_i hg
    cases hd : cs[off]? with
    | none => rw [hd] at e; simp at e
    | some d =>
      rw [hd] at e
      simp at e
      subst e
      obtain ⟨u, hu, hr⟩ := hc off d hd
      exact ⟨u, by simp [loadVar, tagg_run hg, hu], .one hr⟩
  · cases e

theorem part_ok {cs : List Cell} {V : List Value} (hl : V.length = cs.length) (hc : ∀ (j : Nat) (d : Cell) (u : Value), cs[j]? = some d → V[j]? = some u → RCell ι h bd w d u)
    {t : TypeId} {off : Nat} {av : AV} (e : partA P t cs off = some av) : ∃ v, (part t V.toArray off).run P w = .ok v w ∧ RAV ι h bd w av v := by
  unfold partA at e
  split at e
  · rename_i hg
    split at e
    · rename_i n hn
      split at e
      · rename_i hle
        injection e with e
        subst e
        refine ⟨.agg ((V.drop off).take n).toArray, ?_, ?_⟩
        · simp only [part, Sem.run_bind, tagg_run hg, Result.andThen, if_true, tsz_run hn, Sem.run_pure]
          congr 2
          rw [List.extract_toArray]
          simp
        · refine .agg _ (by simp [hl]) (fun i c u hci hu => ?_)
          have hi : i < n := by
            rcases Nat.lt_or_ge i n with h' | h'
            · exact h'
            · rw [List.getElem?_take, if_neg (by omega)] at hu; cases hu
          rw [List.getElem?_take, if_pos hi, List.getElem?_drop] at hci hu
          exact hc _ c u hci hu
      · cases e
    · cases e
  · rename_i hg
    cases hd : cs[off]? with
    | none => rw [hd] at e; simp at e
    | some d =>
      rw [hd] at e
      simp at e
      subst e
      have hlt : off < V.length := by rw [hl]; exact (List.getElem?_eq_some_iff.1 hd).1
      have hu : V[off]? = some V[off] := List.getElem?_eq_getElem hlt
      exact ⟨V[off], by simp [part, tagg_run hg, hu], .one (hc _ _ _ hd hu)⟩
  · cases e

theorem ptr_inv {id ver off : Nat} {X : Value} (r : RAV ι h bd w (.one (.ptr id ver off)) X) {b : Blk} (hb : h id = some b) (hv : b.ver = ver) : X = .pointer (some ⟨ι id, off, none⟩) := by
  cases r with
  | one hc => cases hc with | ptr _ _ hv' => exact hv' b hb hv

theorem ro_inv {cs : List PD} {X : Value} (r : RAV ι h bd w (.one (.ro cs)) X) : ∃ (A : Addr) (U : Nat → Value), X = .pointer (some A) ∧ A.spot = none ∧
    ∀ (j : Nat) (d : PD), cs[j]? = some d → stab ι h A.block ∧ w.cell? ⟨A.block, A.off + j, none⟩ = some (U j) ∧ RPD (stab ι h) w d (U j) := by
  cases r with
  | one hc => cases hc with | ro A U hs hc => exact ⟨A, U, rfl, hs, hc⟩

theorem addr_eta {A : Addr} (e : A.spot = none) : A = ⟨A.block, A.off, none⟩ := by cases A; simp at e; subst e; rfl

theorem ld_ok (H : HeapOK ι h bd w) {t : TypeId} {x av : AV} {X : Value} (r : RAV ι h bd w x X) (e : ldA P t h x = some av) :
    ∃ v, (Instr.loadAt t X).run P w = .ok v w ∧ RAV ι h bd w av v := by
  unfold ldA at e
  split at e
  · rename_i id ver off
    split at e
    · rename_i b hb
      split at e
      · rename_i hv
        have hX := ptr_inv r hb hv
        subst hX
        by_cases hne : b.cells = []
        · unfold partA at e
          rw [hne] at e
          split at e
          · rename_i hg
            split at e
            · rename_i n hn
              split at e
              · rename_i hle
                simp at hle
                obtain ⟨rfl, rfl⟩ := hle
                injection e with e
                subst e
                refine ⟨.agg #[], ?_, ?_⟩
                · simp [Instr.loadAt, Instr.sureAddr, loadVar, tagg_run hg, tsz_run hn, loadCells, loadCellsFrom]
                · exact .agg [] rfl (fun _ _ _ hh => by simp at hh)
              · cases e
            · cases e
          · simp at e
          · cases e
        · obtain ⟨c, ty, h1, h2, h3⟩ := H.blk id b hb hne
          obtain ⟨v, hv1, hv2⟩ := loadVar_ok (P := P) (ι := ι) (h := h) (bd := bd) (w := w) (cs := b.cells) (blk := ι id) (B := 0) (off := off) (fun j d hd => by
            have hlt : j < c.size := by rw [h2]; exact (List.getElem?_eq_some_iff.1 hd).1
            refine ⟨c[j], ?_, h3 j d _ hd (Array.getElem?_eq_getElem hlt)⟩
            simp [World.cell?, h1, hlt]) e
          exact ⟨v, by simpa [Instr.loadAt, Instr.sureAddr] using hv1, hv2⟩
      · cases e
    · cases e
  · rename_i cs
    obtain ⟨A, U, rfl, hs, hc⟩ := ro_inv r
    obtain ⟨v, hv1, hv2⟩ := loadVar_ok (P := P) (ι := ι) (h := h) (bd := bd) (w := w) (cs := cs.map .p) (blk := A.block) (B := A.off) (off := 0) (fun j d hd => by
      rw [List.getElem?_map] at hd
      cases h0 : cs[j]? with
      | none => rw [h0] at hd; simp at hd
      | some d0 =>
        rw [h0] at hd
        simp at hd
        subst hd
        obtain ⟨_, h2, h3⟩ := hc j d0 h0
        exact ⟨U j, h2, .p h3⟩) e
    exact ⟨v, by rw [addr_eta hs]; simpa [Instr.loadAt, Instr.sureAddr] using hv1, hv2⟩
  · cases e

theorem fieldPlace_run {A : Addr} (hs : A.spot = none) {x : Field} {n : Nat} (hn : tsz P x.type = some (n + 1)) : (fieldPlace A x).run P w = .ok ⟨A.block, A.off + x.offset, none⟩ w := by
  simp only [fieldPlace, Sem.run_bind, tsz_run hn, Result.andThen]
  rw [if_neg (by omega), addr_eta hs, add_none]
  simp

theorem live_run {id ver : Nat} (e : liveB h id ver = true) : ∃ b, h id = some b ∧ b.ver = ver := by
  unfold liveB at e
  split at e
  · rename_i b hb; exact ⟨b, hb, by simpa using e⟩
  · cases e

theorem ptr_off {id ver off off' : Nat} {X : Value} (r : RAV ι h bd w (.one (.ptr id ver off)) X) : RAV ι h bd w (.one (.ptr id ver off')) (.pointer (some ⟨ι id, off', none⟩)) := by
  cases r with
  | one hc => cases hc with | ptr a b' c => exact .one (.ptr a b' (fun _ _ _ => rfl))

theorem fld_ok {t : TypeId} {x av : AV} {X : Value} {f : Nat} (r : RAV ι h bd w x X) (e : fldA P t h x f = some av) :
    ∃ v, (Instr.fieldAt t X f).run P w = .ok v w ∧ RAV ι h bd w av v := by
  unfold fldA at e
  split at e
  · rename_i o ho
    obtain ⟨fs, y, n, h1, h2, h3, rfl⟩ := fldO_run ho
    split at e
    · rename_i id ver off
      split at e
      · rename_i hl
        injection e with e
        subst e
        obtain ⟨b, hb, hv⟩ := live_run hl
        have hX := ptr_inv r hb hv
        subst hX
        refine ⟨.pointer (some ⟨ι id, off + y.offset, none⟩), ?_, ptr_off r⟩
        simp only [Instr.fieldAt, Sem.run_bind, run_underlying h1, Result.andThen, h2, Instr.sureAddr, Sem.run_pure, fieldPlace_run (A := ⟨ι id, off, none⟩) rfl h3]
      · cases e
    · rename_i cs
      injection e with e
      subst e
      obtain ⟨A, U, rfl, hs, hc⟩ := ro_inv r
      refine ⟨.pointer (some ⟨A.block, A.off + y.offset, none⟩), ?_, ?_⟩
      · simp only [Instr.fieldAt, Sem.run_bind, run_underlying h1, Result.andThen, h2, Instr.sureAddr, Sem.run_pure, fieldPlace_run hs h3]
      · refine .one (.ro _ (fun j => U (y.offset + j)) rfl (fun j d hd => ?_))
        rw [List.getElem?_drop] at hd
        obtain ⟨g1, g2, g3⟩ := hc _ d hd
        exact ⟨g1, by show w.cell? ⟨A.block, A.off + y.offset + j, none⟩ = _; rw [Nat.add_assoc]; exact g2, g3⟩
    · cases e
  · cases e

theorem int_inv {k : IntKind} {i : Int} {X : Value} (r : RAV ι h bd w (.one (.p (.v (.int k i)))) X) : X = .int k i := rav_v_inv r

theorem sl_inv {sz : Nat} {es : List (List PD)} {X : Value} (r : RAV ι h bd w (.one (.p (.sl sz es))) X) : ∃ (a : Option Addr) (cap : Nat) (U : Nat → Nat → Value), X = .slice a es.length cap ∧ es.length ≤ cap ∧ (a = none → cap = 0) ∧
    (∀ A, a = some A → es = [] ∨ A.spot = none) ∧ (∀ e ∈ es, e.length = sz) ∧
    (∀ (i : Nat) (e : List PD), es[i]? = some e → ∀ (j : Nat) (d : PD), e[j]? = some d → ∃ A : Addr, a = some A ∧ stab ι h A.block ∧ w.cell? ⟨A.block, A.off + (i * sz + j), none⟩ = some (U i j)) ∧
    (∀ (i : Nat) (e : List PD), es[i]? = some e → ∀ (j : Nat) (d : PD), e[j]? = some d → RPD (stab ι h) w d (U i j)) := by
  cases r with
  | one hc => cases hc with | p hd => cases hd with | sl a cap U h1 h2 h3 h4 h5 h6 => exact ⟨a, cap, U, rfl, h1, h2, h3, h4, h5, h6⟩

theorem win_inv {id ver off len cap : Nat} {X : Value} (r : RAV ι h bd w (.one (.win id ver off len cap)) X) (hl : liveB h id ver = true) :
    len ≤ cap ∧ (X = .slice (some ⟨ι id, off, none⟩) len cap ∨ (X = .slice none 0 0 ∧ len = 0 ∧ cap = 0)) := by
  obtain ⟨b, hb, hv⟩ := live_run hl
  cases r with
  | one hc => cases hc with | win _ _ hv' => exact hv' b hb hv

theorem win_hd {id ver off len cap : Nat} {X : Value} (r : RAV ι h bd w (.one (.win id ver off len cap)) X) : id < bd ∧ ∀ blk, h id = some blk → ver ≤ blk.ver := by
  cases r with
  | one hc => cases hc with | win a b _ => exact ⟨a, b⟩

theorem ptr_hd {id ver off : Nat} {X : Value} (r : RAV ι h bd w (.one (.ptr id ver off)) X) : id < bd ∧ ∀ blk, h id = some blk → ver ≤ blk.ver := by
  cases r with
  | one hc => cases hc with | ptr a b _ => exact ⟨a, b⟩

theorem idx_ok {t : TypeId} {x i av : AV} {X I : Value} (r : RAV ι h bd w x X) (ri : RAV ι h bd w i I) (e : idxA P t h x i = some av) :
    ∃ v, (Instr.indexAt t X I).run P w = .ok v w ∧ RAV ι h bd w av v := by
  unfold idxA at e
  split at e
  · rename_i k i
    have hI := int_inv ri
    subst hI
    split at e
    · rename_i sz es
      split at e
      · rename_i z hz
        split at e
        · rename_i hc
          obtain ⟨rfl, h0, h1⟩ := hc
          injection e with e
          subst e
          obtain ⟨el, hu, hs⟩ := slS_run hz
          obtain ⟨a, cap, U, rfl, g1, g2, g3, g4, g5, g6⟩ := sl_inv r
          have hi : i.toNat < es.length := by omega
          have he : es[i.toNat]? = some (es.getD i.toNat []) := by simp [List.getD, hi]
          have hal : ∃ A, a = some A := by
            cases a with
            | some A => exact ⟨A, rfl⟩
            | none => have := g2 rfl; omega
          obtain ⟨A, rfl⟩ := hal
          refine ⟨.pointer (some ⟨A.block, A.off + i.toNat * z, none⟩), ?_, ?_⟩
          · have hsp := (g3 A rfl).resolve_left (fun hh => by rw [hh] at hi; simp at hi)
            simp only [Instr.indexAt, asIntOf, Sem.run_bind, Sem.run_pure, Result.andThen, run_underlying hu, if_pos (And.intro h0 h1), tsz_run hs]
            rw [addr_eta hsp, add_none]
          · refine .one (.ro _ (fun j => U i.toNat j) rfl (fun j d hd => ?_))
            obtain ⟨A', hA', k1, k2⟩ := g5 _ _ he j d hd
            injection hA' with hA'
            subst hA'
            exact ⟨k1, by show w.cell? ⟨A.block, A.off + i.toNat * z + j, none⟩ = _; rw [Nat.add_assoc]; exact k2, g6 _ _ he j d hd⟩
        · cases e
      · cases e
    · rename_i id ver off len cap
      split at e
      · rename_i z hz
        split at e
        · rename_i hc
          obtain ⟨hl, h0, h1⟩ := hc
          injection e with e
          subst e
          obtain ⟨el, hu, hs⟩ := slS_run hz
          obtain ⟨g0, hX⟩ := win_inv r hl
          have hX : X = .slice (some ⟨ι id, off, none⟩) len cap := by
            rcases hX with hX | ⟨_, hX, _⟩
            · exact hX
            · omega
          subst hX
          refine ⟨.pointer (some ⟨ι id, off + i.toNat * z, none⟩), ?_, .one (.ptr (win_hd r).1 (win_hd r).2 (fun _ _ _ => rfl))⟩
          simp only [Instr.indexAt, asIntOf, Sem.run_bind, Sem.run_pure, Result.andThen, run_underlying hu, if_pos (And.intro h0 h1), tsz_run hs, add_none]
        · cases e
      · cases e
    · rename_i id ver off
      split at e
      · rename_i n z hz
        split at e
        · rename_i hc
          obtain ⟨hl, h0, h1⟩ := hc
          injection e with e
          subst e
          obtain ⟨el, hu, hs⟩ := arS_run hz
          obtain ⟨b, hb, hv⟩ := live_run hl
          have hX := ptr_inv r hb hv
          subst hX
          refine ⟨.pointer (some ⟨ι id, off + i.toNat * z, none⟩), ?_, ptr_off r⟩
          simp only [Instr.indexAt, asIntOf, Sem.run_bind, Sem.run_pure, Result.andThen, run_underlying hu, Instr.sureAddr, if_pos (And.intro h0 h1), tsz_run hs, add_none]
        · cases e
      · cases e
    · cases e
  · cases e

theorem agg_inv {cs : List Cell} {X : Value} (r : RAV ι h bd w (.agg cs) X) : ∃ V : List Value, X = .agg V.toArray ∧ V.length = cs.length ∧
    ∀ (i : Nat) (c : Cell) (u : Value), cs[i]? = some c → V[i]? = some u → RCell ι h bd w c u := by
  cases r with
  | agg V hl hv => exact ⟨V, rfl, hl, hv⟩

theorem idxV_ok {t : TypeId} {x i av : AV} {X I : Value} (r : RAV ι h bd w x X) (ri : RAV ι h bd w i I) (e : idxV P t x i = some av) :
    ∃ v, (Instr.index t X I).run P w = .ok v w ∧ RAV ι h bd w av v := by
  unfold idxV at e
  split at e
  · rename_i k i
    have hI := int_inv ri
    subst hI
    split at e
    · rename_i s
      split at e
      · rename_i hc
        obtain ⟨hs, h0, h1⟩ := hc
        injection e with e
        subst e
        have hX := rav_v_inv r
        subst hX
        have hlt : i.toNat < s.size := by omega
        refine ⟨_, ?_, rav_v _⟩
        have hb : s[i.toNat]? = some s[i.toNat] := by simp [hlt]
        have hb2 : strAt s i.toNat = (s[i.toNat].toNat : Int) := by
          unfold strAt
          have : s.data.toList.getD i.toNat 0 = s[i.toNat] := by
            have h2 : i.toNat < s.data.size := hlt
            simp only [List.getD, Array.getElem?_toList]
            rw [Array.getElem?_eq_getElem h2]
            rfl
          rw [this]
        simp only [Instr.index, asIntOf, Sem.run_bind, Sem.run_pure, Result.andThen, run_underlying (isStr_run hs), if_pos h0, hb, hb2]
      · cases e
    · rename_i cs
      split at e
      · rename_i n el hz
        split at e
        · rename_i z hs
          split at e
          · rename_i hc
            obtain ⟨V, rfl, hl, hv⟩ := agg_inv r
            obtain ⟨v, h1, h2⟩ := part_ok (P := P) hl hv e
            refine ⟨v, ?_, h2⟩
            simp only [Instr.index, asIntOf, Sem.run_bind, Sem.run_pure, Result.andThen, run_underlying (arE_run hz), if_pos hc, tsz_run hs, h1]
          · cases e
        · cases e
      · cases e
    · cases e
  · cases e

theorem field_ok {t : TypeId} {x av : AV} {X : Value} {f : Nat} (r : RAV ι h bd w x X) (e : fieldA P t x f = some av) :
    ∃ v, (Instr.field t X f).run P w = .ok v w ∧ RAV ι h bd w av v := by
  unfold fieldA at e
  split at e
  · rename_i cs
    split at e
    · rename_i u o hu
      obtain ⟨fs, y, h1, h2, rfl, rfl⟩ := fldT_run hu
      obtain ⟨V, rfl, hl, hv⟩ := agg_inv r
      obtain ⟨v, g1, g2⟩ := part_ok (P := P) hl hv e
      refine ⟨v, ?_, g2⟩
      simp only [Instr.field, asAgg, Sem.run_bind, Sem.run_pure, Result.andThen, run_underlying h1, h2, g1]
    · cases e
  · cases e

end Go.Proofs.YtengjcdilnikhaaDoor.Am
