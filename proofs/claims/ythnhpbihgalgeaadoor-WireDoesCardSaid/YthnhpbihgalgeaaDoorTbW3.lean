/-
  Walks of package table: Put.
-/
import Derived.Test.YthnhpbihgalgeaaDoorTbW1
import Derived.Test.YthnhpbihgalgeaaDoorSlFl3
namespace Go.Proofs.YthnhpbihgalgeaaDoor
set_option linter.unusedSimpArgs false
set_option linter.unusedVariables false
set_option linter.unnecessarySimpa false
open Go Am
set_option maxRecDepth 100000

theorem row_setF (l : List Fl) (T : List Cell) (k : Nat) (hk : k < l.length) (f : Fl) :
    List.take (k * 6) (List.map Cell.p (l.map encF).flatten ++ T) ++ .p (.v (.string (mkS f.name))) :: .p (.v (.float .f64 f.rank)) :: .p (.v (.int .u32 f.sum)) :: .p (.v (.int .i64 f.blk)) :: .p (.v (.int .i64 f.frm)) :: .p (.v (.int .i64 f.len)) :: List.drop (k * 6 + 6) (List.map Cell.p (l.map encF).flatten ++ T) = ((l.set k f).map encF).flatten.map .p ++ T := by
  have h := spl_row (es := l.map encF) (fs := [encF f]) (i := k) T (okEs_fl l) (okEs_fl [f]) (by simp; omega)
  have e : l.set k f = l.take k ++ (f :: l.drop (k + 1)) := by rw [List.set_eq_take_append_cons_drop, if_pos hk]
  rw [e]
  simpa [spl, encF] using h

theorem view_rowF {h : Heap} {D : Nat → Bool} {id : Nat} (f : Fl) (hD : D id = true) (hb : h id = some ⟨0, (encF f).map .p⟩) : ViewC h D (.win id 0 0 1 1) (.p (.sl 6 [encF f])) := by
  have hf := okEs_fl [f]
  refine .p (.win (blk := ⟨0, (encF f).map .p⟩) (fun i k => .p (([encF f].getD i []).getD k (.v undef))) hD hb rfl rfl (fun e he => hf.len e (by simpa using he)) (fun i e he k x hx => ?_) (fun i e he k x hx => ?_))
  · match i with
    | 0 =>
      simp only [List.getElem?_cons_zero, Option.some.injEq] at he
      subst he
      show ((encF f).map Cell.p)[0 + (0 * 6 + k)]? = some (.p ((encF f).getD k (.v undef)))
      rw [show 0 + (0 * 6 + k) = k by omega, List.getElem?_map, hx, List.getD_eq_getElem?_getD, hx]; rfl
    | i + 1 => simp at he
  · match i with
    | 0 =>
      simp only [List.getElem?_cons_zero, Option.some.injEq] at he
      subst he
      show View h D (.p ((encF f).getD k (.v undef))) x
      rw [List.getD_eq_getElem?_getD, hx]
      exact .p x
    | i + 1 => simp at he

end Go.Proofs.YthnhpbihgalgeaaDoor
