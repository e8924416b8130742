/-
  The abstract machine: operations that only compute and read do what is told of them (the rest, and all together).
-/
import Derived.Test.YtengjcdilnikhaaDoorAmSopOk
import Derived.Laws.Strings
import Derived.Laws.StructEq
namespace Go.Proofs.YtengjcdilnikhaaDoor.Am
set_option linter.unusedSimpArgs false
set_option linter.unusedVariables false
set_option linter.unnecessarySimpa false
open Go

variable {P : Program} {ι : Nat → Nat} {h : Heap} {bd : Nat} {w : World}

theorem intB_ok {op : BinOp} {k : IntKind} {a b : Int} {v : Value} (hs : isShift op = false) (e : intB op k a b = some v) (t : TypeId) : (binOp op t (.int k a) (.int k b)).run P w = .ok v w := by
  cases op <;> simp only [intB, isShift, Option.some.injEq, reduceCtorEq] at e hs
  case quo => split at e; · cases e
              · rename_i hb; injection e with e; subst e; simp [binOp, Op.intDiv, hb]
  case rem => split at e; · cases e
              · rename_i hb; injection e with e; subst e; simp [binOp, Op.intDiv, hb]
  case eql => subst e; simp [binOp, Op.intCmp]; rfl
  case neq => subst e; simp [binOp, Op.intCmp]; rfl
  all_goals subst e; simp [binOp, Op.intArith, Op.intBits, Op.intCmp]

theorem shiftB_ok {op : BinOp} {k k' : IntKind} {a b : Int} {v : Value} (e : shiftB op k a b = some v) (t : TypeId) : (binOp op t (.int k a) (.int k' b)).run P w = .ok v w := by
  cases op <;> simp only [shiftB, reduceCtorEq] at e
  all_goals
    split at e
    · cases e
    · rename_i hb; injection e with e; subst e; simp [binOp, Op.shift, hb]

theorem strB_ok {op : BinOp} {a b : ByteArray} {v : Value} (e : strB op a b = some v) (t : TypeId) : (binOp op t (.string a) (.string b)).run P w = .ok v w := by
  have e1 : a.toList = a.data.toList := ByteArray.toList_eq a
  have e2 : b.toList = b.data.toList := ByteArray.toList_eq b
  have e3 : (a.data.toList == b.data.toList) = decide (a.data.toList = b.data.toList) := by rw [Bool.eq_iff_iff]; simp
  cases op <;> simp only [strB, Option.some.injEq, reduceCtorEq] at e
  case add =>
    split at e
    · rename_i hb
      injection e with e
      subst e
      have : ¬ (((a.size + b.size : Nat) : Int) > IntKind.i64.max) := by rw [IntKind.max_i64]; omega
      simp only [binOp, Op.stringOp]
      rw [if_neg this]; rfl
    · cases e
  all_goals
    subst e
    simp only [binOp, Op.stringOp, e1, e2, e3]
    rfl

theorem floatB_ok {op : BinOp} {k : FloatKind} {a b : Nat} {v : Value} (e : floatB op k a b = some v) (t : TypeId) : (binOp op t (.float k a) (.float k b)).run P w = .ok v w := by
  cases op <;> simp only [floatB, Option.some.injEq, reduceCtorEq] at e
  all_goals subst e; simp [binOp, Op.floatCmp]
theorem isFlt_run {t : TypeId} (he : isFlt P t = true) : ∃ k, P.underlying t = some (.float k) := by
  unfold isFlt at he
  split at he
  · rename_i k h; exact ⟨k, h⟩
  · cases he

theorem isBoolT_run {t : TypeId} (he : isBoolT P t = true) : P.underlying t = some .bool := by
  unfold isBoolT at he
  split at he
  · assumption
  · cases he

theorem equal_bool {t : TypeId} (hu : P.underlying t = some .bool) (a b : Bool) : (Op.equal t (.bool a) (.bool b)).run P w = .ok (a == b) w := by
  have : ∀ n, (Op.equalIn (n + 1) t (.bool a) (.bool b)).run P w = .ok (a == b) w := by
    intro n
    simp only [Op.equalIn, Sem.run_bind, run_underlying hu, Result.andThen, Sem.run_pure]
  exact this 9999

theorem binV_ok {op : BinOp} {a b v : Value} {t : TypeId} (e : binV P t op a b = some v) : (binOp op t a b).run P w = .ok v w := by
  unfold binV at e
  split at e
  · split at e
    · exact shiftB_ok e t
    · rename_i hs
      split at e
      · rename_i hk; subst hk; exact intB_ok (by simpa using hs) e t
      · cases e
  · exact strB_ok e t
  · split at e
    · rename_i x y hb
      have hu := isBoolT_run hb
      split at e
      · injection e with e; subst e; simp only [binOp, Sem.run_bind, equal_bool hu, Result.andThen, Sem.run_pure]
      · injection e with e; subst e; simp only [binOp, Sem.run_bind, equal_bool hu, Result.andThen, Sem.run_pure]; rfl
      · cases e
    · cases e
  · split at e
    · rename_i hk; subst hk; exact floatB_ok e t
    · cases e
  · cases e

theorem guard_ok {op : BinOp} {a b v : Value} {t : TypeId} (e : binV P t op a b = some v) (x y : Operand) : (eqGuard op t x y a b).run P w = .ok () w := by
  unfold binV at e
  split at e
  · rw [eqGuard_at_int]; rfl
  · rw [eqGuard_at_string]; rfl
  · rw [eqGuard_at_bool]; rfl
  · rw [eqGuard_at_float]; rfl
  · cases e

theorem intK_some {t : TypeId} (he : (intK P t).isSome = true) : ∃ k, P.underlying t = some (.int k) := by
  unfold intK at he
  split at he
  · rename_i k h; exact ⟨k, h⟩
  · cases he

theorem eqV_ok {t : TypeId} {a b : Value} {r : Bool} (d : Nat) (e : eqV P t a b = some r) : (Op.equalIn (d + 1) t a b).run P w = .ok r w := by
  unfold eqV at e
  split at e
  · split at e
    · rename_i h
      obtain ⟨rfl, h2⟩ := h
      obtain ⟨k', hk⟩ := intK_some h2
      injection e with e
      subst e
      rw [run_equalIn_int w d t _ k' _ _ hk]
      congr 1
    · cases e
  · split at e
    · rename_i x y h
      injection e with e
      subst e
      rw [run_equalIn_string w d t _ _ (isStr_run h)]
      congr 1
      rw [ByteArray.toList_eq, ByteArray.toList_eq]
      rw [Bool.eq_iff_iff]; simp
    · cases e
  · split at e
    · rename_i h
      injection e with e
      subst e
      exact run_equalIn_bool' w d t _ _ (isBoolT_run h)
    · cases e
  · split at e
    · rename_i h
      obtain ⟨rfl, h2⟩ := h
      obtain ⟨k', hk⟩ := isFlt_run h2
      injection e with e
      subst e
      simp only [Op.equalIn, Sem.run_bind, run_underlying hk, Result.andThen, if_true, Sem.run_pure]
      rfl
    · cases e
  · cases e

theorem eqAV_ok : ∀ (f d : Nat) (t : TypeId) (x y : AV) (X Y : Value) (r : Bool), RAV ι h bd w x X → RAV ι h bd w y Y → eqAV P f t x y = some r → (Op.equalIn (d + f) t X Y).run P w = .ok r w
  | 0, _, _, _, _, _, _, _, _, _, e => by cases e
  | f + 1, d, t, x, y, X, Y, r, rx, ry, e => by
    unfold eqAV at e
    split at e
    · have h1 := rav_v_inv rx
      have h2 := rav_v_inv ry
      subst h1; subst h2
      rw [← Nat.add_assoc]
      exact eqV_ok _ e
    · rename_i cs ds
      split at e
      · rename_i fs hfs
        cases rx with
        | agg V hl hv =>
          cases ry with
          | agg U hl' hv' =>
            unfold flds at hfs
            split at hfs
            · rename_i hc
              split at hfs
              · rename_i gs hu
                split at hfs
                · rename_i hall
                  injection hfs with hfs
                  have hfo : P.fieldsOf t = gs := by simp [Program.fieldsOf, hu]
                  rw [← Nat.add_assoc, run_equalIn_struct w (d + f) t V.toArray U.toArray (by rw [hfo]; exact hu) hc.1, hfo]
                  have hall' : ∀ g ∈ gs.toList, g.name ≠ "_" := fun g hg => by simpa using List.all_eq_true.1 hall g hg
                  clear hall hu hfo hc
                  revert hall' e r
                  subst hfs
                  generalize gs.toList = l
                  intro r e hall
                  induction l generalizing r with
                  | nil => simp [eqFs] at e; subst e; simp [Op.eqFields]
                  | cons g l ih =>
                    simp only [List.map_cons, eqFs] at e
                    split at e
                    · rename_i a b ha hb
                      split at e
                      · rename_i r1 q1 hr hq
                        injection e with e
                        subst e
                        obtain ⟨v1, p1, p2⟩ := part_ok (P := P) hl hv ha
                        obtain ⟨v2, q1', q2⟩ := part_ok (P := P) hl' hv' hb
                        have hcmp := eqAV_ok f d g.type a b v1 v2 r1 p2 q2 hr
                        have hrest := ih q1 hq (fun x hx => hall x (by simp [hx]))
                        simp only [Op.eqFields, if_pos (hall g (by simp)), Sem.run_bind, p1, q1', hcmp, Result.andThen]
                        cases r1
                        · simp
                        · simpa using hrest
                      · cases e
                    · cases e
                · cases hfs
              · cases hfs
            · cases hfs
      · cases e
    · cases e

theorem bin_ok {op : BinOp} {x y av : AV} {X Y : Value} {t : TypeId} {ox oy : Operand} (rx : RAV ι h bd w x X) (ry : RAV ι h bd w y Y) (e : binA P t op x y = some av) :
    ∃ v, (do eqGuard op t ox oy X Y; binOp op t X Y : Sem Value).run P w = .ok v w ∧ RAV ι h bd w av v := by
  unfold binA at e
  split at e
  · rename_i a b
    have h1 := rav_v_inv rx
    have h2 := rav_v_inv ry
    subst h1; subst h2
    cases hv : binV P t op X Y with
    | none => rw [hv] at e; simp at e
    | some v =>
      rw [hv] at e
      simp at e
      subst e
      exact ⟨v, by simp only [Sem.run_bind, guard_ok hv, Result.andThen, binV_ok hv], rav_v v⟩
  · rename_i cs ds
    cases hr : eqAV P 4 t (.agg cs) (.agg ds) with
    | none => rw [hr] at e; simp at e
    | some r =>
      rw [hr] at e
      simp only [Option.bind_some] at e
      have hcmp := eqAV_ok 4 9996 t _ _ X Y r rx ry hr
      have hg : P.eqGuardType P.depth t = false := by
        unfold eqAV at hr
        simp only at hr
        split at hr
        · rename_i fs hfs
          unfold flds at hfs
          split at hfs
          · rename_i hc; exact hc.2
          · cases hfs
        · cases hr
      cases rx with
      | agg V hl hv =>
        cases ry with
        | agg U hl' hv' =>
          unfold eqR at e
          split at e
          · injection e with e; subst e
            exact ⟨.bool r, by simp only [Sem.run_bind, run_eqGuard_agg w _ t ox oy _ _ hg, Result.andThen, run_eql_struct]; rw [show (10000 : Nat) = 9996 + 4 from rfl, hcmp], rav_v _⟩
          · injection e with e; subst e
            exact ⟨.bool !r, by simp only [Sem.run_bind, run_eqGuard_agg w _ t ox oy _ _ hg, Result.andThen, run_neq_struct]; rw [show (10000 : Nat) = 9996 + 4 from rfl, hcmp], rav_v _⟩
          · cases e
  · cases e

theorem un_ok {op : UnOp} {x av : AV} {X : Value} (rx : RAV ι h bd w x X) (e : unA op x = some av) :
    ∃ v, (Op.unary op X).run P w = .ok v w ∧ RAV ι h bd w av v := by
  unfold unA at e
  split at e
  · rename_i a
    have h1 := rav_v_inv rx
    subst h1
    cases hv : unV op X with
    | none => rw [hv] at e; simp at e
    | some v =>
      rw [hv] at e
      simp at e
      subst e
      refine ⟨v, ?_, rav_v v⟩
      unfold unV at hv
      split at hv
      · injection hv with hv; subst hv; rfl
      · injection hv with hv; subst hv; rfl
      · injection hv with hv; subst hv; simp [Op.unary, Op.intBits]
      · cases hv
  · cases e

theorem intK_run {t : TypeId} {k : IntKind} (he : intK P t = some k) : P.underlying t = some (.int k) := by
  unfold intK at he
  split at he
  · rename_i h; injection he with he; subst he; exact h
  · cases he

theorem conv_ok {s d : TypeId} {x av : AV} {X : Value} (rx : RAV ι h bd w x X) (e : convA P s d x = some av) :
    ∃ v, (convert s d X).run P w = .ok v w ∧ RAV ι h bd w av v := by
  unfold convA at e
  split at e
  · rename_i k n
    have h1 := rav_v_inv rx
    subst h1
    split at e
    · rename_i k' hk
      split at e
      · rename_i hu
        injection e with e
        subst e
        obtain ⟨D, hD⟩ := Option.isSome_iff_exists.1 hu
        exact ⟨_, by simp [convert, run_underlying hD, run_underlying (intK_run hk), Conv.intToInt], rav_v _⟩
      · cases e
    · cases e
  · rename_i str
    have h1 := rav_v_inv rx
    subst h1
    split at e
    · rename_i hu
      injection e with e
      subst e
      obtain ⟨D, hD⟩ := Option.isSome_iff_exists.1 hu.1
      refine ⟨_, ?_, rav_v _⟩
      simp only [convert, Sem.run_bind, run_underlying hD, run_underlying (isStr_run hu.2), Result.andThen]
      cases D <;> rfl
    · cases e
  · cases e

theorem ex_ok {x av : AV} {X : Value} {i : Nat} (rx : RAV ι h bd w x X) (e : exA x i = some av) :
    ∃ v, (Instr.extract X i).run P w = .ok v w ∧ RAV ι h bd w av v := by
  unfold exA at e
  split at e
  · rename_i vs
    cases rx with
    | tup V hl hv =>
      have hlt : i < V.length := by rw [hl]; exact (List.getElem?_eq_some_iff.1 e).1
      have hu : V[i]? = some V[i] := List.getElem?_eq_getElem hlt
      exact ⟨V[i], by simp [Instr.extract, hu], hv i av _ e hu⟩
  · cases e

theorem slE_some {t : TypeId} (he : (slE P t).isSome = true) : ∃ e, P.underlying t = some (.slice e) := by
  obtain ⟨e, h⟩ := Option.isSome_iff_exists.1 he
  exact ⟨e, slE_run h⟩

theorem len_ok {t ty : TypeId} {x av : AV} {X : Value} (rx : RAV ι h bd w x X) (e : lenA P t h x = some av) :
    ∃ v, (Builtin.len_ #[t] ty #[X]).run P w = .ok v w ∧ RAV ι h bd w av v := by
  unfold lenA at e
  split at e
  · have h1 := rav_v_inv rx
    subst h1
    split at e
    · rename_i hs
      injection e with e; subst e
      exact ⟨_, by simp [Builtin.len_, run_underlying (isStr_run hs), goInt], rav_v _⟩
    · cases e
  · have h1 := rav_v_inv rx
    subst h1
    split at e
    · rename_i hs
      injection e with e; subst e
      obtain ⟨el, hel⟩ := slE_some hs
      exact ⟨_, by simp [Builtin.len_, run_underlying hel, goInt], rav_v _⟩
    · cases e
  · rename_i sz es
    split at e
    · rename_i hs
      injection e with e; subst e
      obtain ⟨el, hel⟩ := slE_some hs
      obtain ⟨a, cap, U, rfl, _⟩ := sl_inv rx
      exact ⟨_, by simp [Builtin.len_, run_underlying hel, goInt], rav_v _⟩
    · cases e
  · split at e
    · rename_i hs
      injection e with e; subst e
      obtain ⟨el, hel⟩ := slE_some hs.2
      obtain ⟨_, hX⟩ := win_inv rx hs.1
      rcases hX with rfl | ⟨rfl, rfl, rfl⟩
      · exact ⟨_, by simp [Builtin.len_, run_underlying hel, goInt], rav_v _⟩
      · exact ⟨_, by simp [Builtin.len_, run_underlying hel, goInt], rav_v _⟩
    · cases e
  · cases e

theorem cap_ok {t ty : TypeId} {x av : AV} {X : Value} (rx : RAV ι h bd w x X) (e : capA P t h x = some av) :
    ∃ v, (Builtin.cap_ #[t] ty #[X]).run P w = .ok v w ∧ RAV ι h bd w av v := by
  unfold capA at e
  split at e
  · have h1 := rav_v_inv rx
    subst h1
    split at e
    · rename_i hs
      injection e with e; subst e
      obtain ⟨el, hel⟩ := slE_some hs
      exact ⟨_, by simp [Builtin.cap_, run_underlying hel, goInt], rav_v _⟩
    · cases e
  · split at e
    · rename_i hs
      injection e with e; subst e
      obtain ⟨el, hel⟩ := slE_some hs.2
      obtain ⟨_, hX⟩ := win_inv rx hs.1
      rcases hX with rfl | ⟨rfl, rfl, rfl⟩
      · exact ⟨_, by simp [Builtin.cap_, run_underlying hel, goInt], rav_v _⟩
      · exact ⟨_, by simp [Builtin.cap_, run_underlying hel, goInt], rav_v _⟩
    · cases e
  · cases e

theorem mm_ok {x y av : AV} {X Y : Value} (rx : RAV ι h bd w x X) (ry : RAV ι h bd w y Y) :
    (mm2 true x y = some av → ∃ v, (Builtin.max2 X Y).run P w = .ok v w ∧ RAV ι h bd w av v) ∧ (mm2 false x y = some av → ∃ v, (Builtin.min2 X Y).run P w = .ok v w ∧ RAV ι h bd w av v) := by
  constructor
  all_goals
    intro e
    unfold mm2 at e
    split at e
    · have h1 := rav_v_inv rx
      have h2 := rav_v_inv ry
      subst h1; subst h2
      split at e
      · rename_i hk
        subst hk
        injection e with e; subst e
        refine ⟨_, ?_, rav_v _⟩
        first
          | (simp only [Builtin.max2, cond_true]; show _ = Result.ok _ w; simp only [Sem.run_pure]; congr 2; rw [Int.max_def]; (repeat split) <;> omega)
          | (simp only [Builtin.min2, cond_false]; show _ = Result.ok _ w; simp only [Sem.run_pure]; congr 2; rw [Int.min_def]; (repeat split) <;> omega)
      · cases e
    · cases e

end Go.Proofs.YtengjcdilnikhaaDoor.Am
