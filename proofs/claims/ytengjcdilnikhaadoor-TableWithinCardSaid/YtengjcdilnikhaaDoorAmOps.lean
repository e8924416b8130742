/-
  The abstract machine: one operation, and lists of operations.
-/
import Derived.Test.YtengjcdilnikhaaDoorAmSopOk4
namespace Go.Proofs.YtengjcdilnikhaaDoor.Am
set_option linter.unusedSimpArgs false
set_option linter.unusedVariables false
set_option linter.unnecessarySimpa false
open Go

theorem sop_ok {P : Program} {ι : Nat → Nat} {h : Heap} {bd : Nat} {w : World} {t : Nat → AV} {ρ : Operand → Value} (rel : ∀ x, RAV ι h bd w (val t x) (ρ x)) (H : HeapOK ι h bd w) {o : Oper} {av : AV}
    (e : sop P t h o = some av) : ∃ v, (execOp ρ o).run P w = .ok (.value v) w ∧ RAV ι h bd w av v := by
  have vv : ∀ {s : Sem Value} {v : Value}, s.run P w = .ok v w → (do pure (.value (← s)) : Sem Next).run P w = .ok (.value v) w := by
    intro s v hs
    simp only [Sem.run_bind, hs, Result.andThen, Sem.run_pure]
  obtain ⟨dst, op, ty, pos, after, guard⟩ := o
  unfold sop at e
  simp only at e
  split at e
  · injection e with e; subst e; exact ⟨_, rfl, rel _⟩
  · injection e with e; subst e; exact ⟨_, rfl, rel _⟩
  · rename_i c a b
    have rc := rel c
    split at e
    · rename_i g hg
      rw [hg] at rc
      have hc := rav_v_inv rc
      injection e with e
      subst e
      refine ⟨if g then ρ a else ρ b, ?_, ?_⟩
      · simp only [execOp, hc, asBool, Sem.run_bind, Sem.run_pure, Result.andThen]
      · cases g
        · exact rel b
        · exact rel a
    · cases e
  · obtain ⟨v, h1, h2⟩ := ld_ok (P := P) H (rel _) e; exact ⟨v, vv h1, h2⟩
  · obtain ⟨v, h1, h2⟩ := fld_ok (P := P) (rel _) e; exact ⟨v, vv h1, h2⟩
  · obtain ⟨v, h1, h2⟩ := field_ok (P := P) (rel _) e; exact ⟨v, vv h1, h2⟩
  · obtain ⟨v, h1, h2⟩ := idx_ok (P := P) (rel _) (rel _) e; exact ⟨v, vv h1, h2⟩
  · obtain ⟨v, h1, h2⟩ := idxV_ok (P := P) (rel _) (rel _) e; exact ⟨v, vv h1, h2⟩
  · obtain ⟨v, h1, h2⟩ := bin_ok (P := P) (rel _) (rel _) e; exact ⟨v, vv h1, h2⟩
  · obtain ⟨v, h1, h2⟩ := un_ok (P := P) (rel _) e; exact ⟨v, vv h1, h2⟩
  · obtain ⟨v, h1, h2⟩ := conv_ok (P := P) (rel _) e; exact ⟨v, vv h1, h2⟩
  · obtain ⟨v, h1, h2⟩ := slc_ok (P := P) rel e; exact ⟨v, vv h1, h2⟩
  · obtain ⟨v, h1, h2⟩ := ex_ok (P := P) (rel _) e; exact ⟨v, vv h1, h2⟩
  · rename_i x
    have rx := rel x
    unfold nilV at e
    split at e
    · rename_i id ver off hg
      rw [hg] at rx
      split at e
      · rename_i hl
        injection e with e; subst e
        obtain ⟨b, hb, hv⟩ := live_run hl
        have hX := ptr_inv rx hb hv
        exact ⟨ρ x, by simp only [execOp, hX]; rfl, rx⟩
      · cases e
    · rename_i cs hg
      rw [hg] at rx
      injection e with e; subst e
      obtain ⟨A, U, hX, _⟩ := ro_inv rx
      exact ⟨ρ x, by simp only [execOp, hX]; rfl, rx⟩
    · rename_i f a b hg
      rw [hg] at rx
      injection e with e; subst e
      refine ⟨ρ x, ?_, rx⟩
      have hX : ∃ F C, ρ x = .func (.func f) F C := by
        revert rx
        generalize ρ x = X
        intro rx
        cases rx with
        | one hc => cases hc with | clo F C hF hC h1 h2 => exact ⟨_, _, rfl⟩
      obtain ⟨F, C, hX⟩ := hX
      simp only [execOp, hX]; rfl
    · cases e
  · obtain ⟨v, h1, h2⟩ := bld_ok (P := P) rel e; exact ⟨v, vv h1, h2⟩
  · rename_i fn first cap
    split at e
    · rename_i a b ha hb
      injection e with e; subst e
      have r1 := cellOnes_ok rel _ _ ha
      have r2 := cellOnes_ok rel _ _ hb
      refine ⟨.func fn (first.map ρ) (cap.map ρ), rfl, ?_⟩
      have := RAV.one (RCell.clo (ι := ι) (h := h) (bd := bd) (w := w) (fn := fn) (first := a) (cap := b) _ _ r1.1 r2.1 r1.2 r2.2)
      have e1 : (List.map ρ first.toList).toArray = Array.map ρ first := by apply Array.ext'; simp
      have e2 : (List.map ρ cap.toList).toArray = Array.map ρ cap := by apply Array.ext'; simp
      rw [e1, e2] at this
      exact this
    · cases e
  · rename_i xs tys
    rw [callee_builtin]
    split at e
    · rename_i x t1 hx ht
      have hx' : xs = #[x] := by rw [← Array.toList_inj]; exact hx
      have ht' : tys = #[t1] := by rw [← Array.toList_inj]; exact ht
      subst hx'; subst ht'
      have hm : Array.map ρ #[x] = #[ρ x] := by simp
      rw [hm]
      obtain ⟨v, h1, h2⟩ := len_ok (P := P) (ty := ty) (rel x) e
      exact ⟨v, vv h1, h2⟩
    · cases e
  · rename_i xs tys
    rw [callee_builtin]
    split at e
    · rename_i x t1 hx ht
      have hx' : xs = #[x] := by rw [← Array.toList_inj]; exact hx
      have ht' : tys = #[t1] := by rw [← Array.toList_inj]; exact ht
      subst hx'; subst ht'
      have hm : Array.map ρ #[x] = #[ρ x] := by simp
      rw [hm]
      obtain ⟨v, h1, h2⟩ := cap_ok (P := P) (ty := ty) (rel x) e
      exact ⟨v, vv h1, h2⟩
    · cases e
  · rename_i xs tys
    rw [callee_builtin]
    split at e
    · rename_i x y hx
      have hx' : xs = #[x, y] := by rw [← Array.toList_inj]; exact hx
      subst hx'
      have hm : Array.map ρ #[x, y] = #[ρ x, ρ y] := by simp
      rw [hm]
      obtain ⟨v, h1, h2⟩ := (mm_ok (P := P) (rel x) (rel y)).2 e
      refine ⟨v, vv (s := Builtin.min_ tys ty #[ρ x, ρ y]) ?_, h2⟩
      simp only [Builtin.min_, List.foldlM_cons, List.foldlM_nil, Sem.run_bind, h1, Result.andThen, Sem.run_pure]
    · cases e
  · rename_i xs tys
    rw [callee_builtin]
    split at e
    · rename_i x y hx
      have hx' : xs = #[x, y] := by rw [← Array.toList_inj]; exact hx
      subst hx'
      have hm : Array.map ρ #[x, y] = #[ρ x, ρ y] := by simp
      rw [hm]
      obtain ⟨v, h1, h2⟩ := (mm_ok (P := P) (rel x) (rel y)).1 e
      refine ⟨v, vv (s := Builtin.max_ tys ty #[ρ x, ρ y]) ?_, h2⟩
      simp only [Builtin.max_, List.foldlM_cons, List.foldlM_nil, Sem.run_bind, h1, Result.andThen, Sem.run_pure]
    · cases e
  · cases e

end Go.Proofs.YtengjcdilnikhaaDoor.Am
