/-
  Own rows of equal elements: as a predicate.
-/
import Derived.Test.YtengjcdilnikhaaDoorSlEnds
namespace Go.Proofs.YtengjcdilnikhaaDoor
set_option linter.unusedSimpArgs false
set_option linter.unusedVariables false
set_option linter.unnecessarySimpa false
open Go Am

/-- an own row of es, with room for so many -/
def RowAt (h : Heap) (id ver cap sz : Nat) (es : List (List PD)) : Prop := ∃ T, h id = some (rowB ver es T) ∧ es.length * sz + T.length = cap * sz ∧ lowCs 0 T = true
theorem RowAt.cut {h : Heap} {id ver cap sz k : Nat} {es : List (List PD)} (r : RowAt h id ver cap sz es) (hm : id < k) : RowAt (cutH k h) id ver cap sz es := by
  obtain ⟨T, h1, h2, h3⟩ := r
  exact ⟨T, cutH_same hm h1 (lowCs_app (lowCs_p _ _) (lowCs_mono (Nat.zero_le _) h3)), h2, h3⟩
theorem RowAt.ne {h : Heap} {id ver cap sz i : Nat} {es : List (List PD)} {blk : Blk} (r : RowAt h id ver cap sz es) (hi : id ≠ i) : RowAt (upd h i blk) id ver cap sz es := by
  obtain ⟨T, h1, h2, h3⟩ := r
  exact ⟨T, by rw [upd_ne _ _ _ _ hi]; exact h1, h2, h3⟩
theorem RowAt.del {h : Heap} {id ver cap sz i : Nat} {es : List (List PD)} (r : RowAt h id ver cap sz es) (hi : id ≠ i) : RowAt (delH h i) id ver cap sz es := by
  obtain ⟨T, h1, h2, h3⟩ := r
  exact ⟨T, by unfold delH; rw [if_neg hi]; exact h1, h2, h3⟩
theorem RowAt.new {h : Heap} {id ver cap sz : Nat} {es : List (List PD)} {T : List Cell} (h2 : es.length * sz + T.length = cap * sz) (h3 : lowCs 0 T = true) : RowAt (upd h id (rowB ver es T)) id ver cap sz es := ⟨T, upd_same _ _ _, h2, h3⟩
theorem RowAt.nil {h : Heap} {id sz : Nat} : RowAt (upd h id ⟨0, []⟩) id 0 0 sz [] := ⟨[], upd_same _ _ _, by simp, rfl⟩
theorem RowAt.low {h : Heap} {id ver cap sz : Nat} {es : List (List PD)} (r : RowAt h id ver cap sz es) : ∃ blk, h id = some blk ∧ blk.ver = ver ∧ lowCs 0 blk.cells = true := by
  obtain ⟨T, h1, h2, h3⟩ := r
  exact ⟨_, h1, rfl, lowCs_app (lowCs_p _ _) h3⟩

/-- an own row is read-only from now on -/
theorem AWP.frzRow {P : Program} {C : Ctx} {Q : Exit → St → Prop} {c : Code} {t : Nat → AV} {h : Heap} {n : Nat} (i : Nat) {id ver len cap sz : Nat} {es : List (List PD)} (e : t i = .one (.win id ver 0 len cap)) (r : RowAt h id ver cap sz es) (ho : okEs sz es) (hl : es.length = len)
    (k : AWP P C c Q ⟨updT t i (.one (.p (.sl sz es))), delH h id, n⟩) : AWP P C c Q ⟨t, h, n⟩ := by
  obtain ⟨T, h1, h2, h3⟩ := r
  exact AWP.frz i (cap := cap) (len := len) (off := 0) (id := id) sz es e h1 rfl hl ho.len (row_cells ho ver T) k
end Go.Proofs.YtengjcdilnikhaaDoor
