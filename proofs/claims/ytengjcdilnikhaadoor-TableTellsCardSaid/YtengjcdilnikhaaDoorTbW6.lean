/-
  An own row of files that grows.
-/
import Derived.Test.YtengjcdilnikhaaDoorTbW4
namespace Go.Proofs.YtengjcdilnikhaaDoor
set_option linter.unusedSimpArgs false
set_option linter.unusedVariables false
set_option linter.unnecessarySimpa false
open Go Am
set_option maxRecDepth 100000

/-! ### an own row of files -/
def FlRow (h : Heap) (id ver cap : Nat) (m : List Fl) : Prop := ∃ T, h id = some (rowB ver (m.map encF) T) ∧ m.length * 6 + T.length = cap * 6 ∧ lowCs 0 T = true
theorem FlRow.cut {h : Heap} {id ver cap k : Nat} {m : List Fl} (r : FlRow h id ver cap m) (hm : id < k) : FlRow (cutH k h) id ver cap m := by
  obtain ⟨T, h1, h2, h3⟩ := r
  exact ⟨T, cutH_same hm h1 (lowCs_app (lowCs_p _ _) (lowCs_mono (Nat.zero_le _) h3)), h2, h3⟩
theorem FlRow.ne {h : Heap} {id ver cap i : Nat} {m : List Fl} {blk : Blk} (r : FlRow h id ver cap m) (hi : id ≠ i) : FlRow (upd h i blk) id ver cap m := by
  obtain ⟨T, h1, h2, h3⟩ := r
  exact ⟨T, by rw [upd_ne _ _ _ _ hi]; exact h1, h2, h3⟩

theorem append_fl {C : Ctx} {h : Heap} {n : Nat} {K : KT} {id ver cap id2 : Nat} {m : List Fl} {f : Fl} (hr : FlRow h id ver cap m) (h2 : h id2 = some ⟨0, (encF f).map .p⟩) (hl : m.length ≤ 100000)
    (k : ∀ cap' T', (m.length + 1) * 6 + T'.length = cap' * 6 → lowCs 0 T' = true → K (.one (.win id (ver + 1) 0 (m.length + 1) cap')) (upd h id (rowB (ver + 1) ((m ++ [f]).map encF) T')) n) :
    BiK Tryd.prog C .append [53, 53] [.one (.win id ver 0 m.length cap), .one (.win id2 0 0 1 1)] h n K := by
  obtain ⟨T, h1, h3, h4⟩ := hr
  have hlm : (m.map encF).length = m.length := List.length_map _
  have hfl := okEs_len (okEs_fl m)
  rw [hlm] at hfl
  refine BiK.append_own (e := 60) (sz := 6) (bytes := 56) (m := 1) (xs := (encF f).map .p) (blk := rowB ver (m.map encF) T) ty_slE_53 ty_tsz_60 ty_tzero_60 rfl ty_tby_60 ty_isIntT_53 h1 rfl
    (by rw [rowB]; simp only [List.length_append, List.length_map, hfl]; omega) (by simp [srcA, h2]) (by intro c hc; obtain ⟨x, hx, rfl⟩ := List.mem_map.1 hc; exact okEs_flat (okEs_fl [f]) _ (.p x) (List.mem_map.2 ⟨x, by simpa using hx, rfl⟩)) (by omega) (by decide) (by omega) (fun cap' j q1 q2 => ?_)
  have e := row_push (sz := 6) (ver := ver + 1) (len := m.length) (es := m.map encF) (fs := [encF f]) (T := T) (okEs_fl m) hlm.symm j
  have e2 : ([encF f].flatten.map Cell.p) = (encF f).map .p := rfl
  rw [e2] at e
  rw [show (rowB ver (m.map encF) T).cells = (m.map encF).flatten.map .p ++ T from rfl, e, show m.map encF ++ [encF f] = (m ++ [f]).map encF by simp]
  exact k cap' _ (by rw [List.length_replicate]; omega) (lowCs_junk _ _)

end Go.Proofs.YtengjcdilnikhaaDoor
