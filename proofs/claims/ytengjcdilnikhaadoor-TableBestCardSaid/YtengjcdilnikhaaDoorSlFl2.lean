/-
  Go's package slices at one type of elements: Delete.
-/
import Derived.Test.YtengjcdilnikhaaDoorSlFl
namespace Go.Proofs.YtengjcdilnikhaaDoor
set_option linter.unusedSimpArgs false
set_option linter.unusedVariables false
set_option linter.unnecessarySimpa false
open Go Am
set_option maxRecDepth 100000

theorem delete_fl_ok (es : List (List PD)) (ho : okEs 6 es) (h : Heap) (b id ver cap i j : Nat) (T : List Cell) (hid : id < b) (hb : h id = some (rowB ver es T)) (hT : lowCs 0 T = true) (hcap : es.length ≤ cap)
    (hc : cap * 6 = es.length * 6 + T.length) (hij : i < j) (hj : j ≤ es.length) (hl : es.length ≤ 1000000000) :
    ACalls Tryd.prog 77 [.one (.win id ver 0 es.length cap), IntV i, IntV j] h b 0 (rowR 6 (es.take i ++ es.drop j) h id) := by
  refine ACalls.enter Tryd.func77 rfl (by simp [Tryd.ntmps77]) (fun ι w hn H => ?_)
  have hlow := H.lowCells
  refine Rk ?_
  refine Rgf @hb (fun E K hE hK => ?_)
  refine ⟨⟨by omega, by omega⟩, ⟨by omega, by omega⟩, ⟨by omega, by omega⟩, ?_⟩
  refine hK _ _ _ ?_; clear hE hK K E
  refine AWP.seq ?_
  refine Rk ?_
  refine AWP.ifF (by exact Ecf (show ¬ (i : Int) = j by omega)) ?_
  refine AWP.skip ?_
  refine Ev ?_
  refine Rkf @hb ?_
  refine AWP.seqRegD [] [] [id] mixed (by kernel_rfl) (by kernel_rfl) (fun K hK => .inl ?_) (by kernel_rfl); simp -implicitDefEqProofs only [go_sem, ↓reduceIte, Nat.reduceEqDiff, Nat.reduceAdd, Nat.reduceLT, Nat.reduceLeDiff, reduceCtorEq, Int.toNat_natCast, hb, ers_lit]
  refine ⟨⟨by omega, by omega⟩, ⟨by omega, by omega⟩, ?_⟩
  have hsrc := srcA_row (cap := cap - j) (off := if cap = j then 0 else j * 6) (m := es.length - j) j hb ho (by omega) (by
    by_cases hcj : cap = j
    · rw [if_pos hcj]; exact .inr ⟨by omega, rfl⟩
    · rw [if_neg hcj]; exact .inl rfl)
  rw [List.take_of_length_le (by simp : (es.drop j).length ≤ es.length - j)] at hsrc
  have hdl : (es.drop j).length = es.length - j := by simp
  have hsp := spl_row (i := i) T ho (ho.drop j) (by omega)
  have hfl := okEs_len ho
  refine BiD.of ?_
  refine BiK.append_in (e := 60) (sz := 6) ty_slE_53 ty_tsz_60 ty_isIntT_53 hb rfl hsrc (okEs_flat (ho.drop j) _) (by omega) (by simp only [List.length_append, List.length_map, hfl]; omega) ?_
  rw [Nat.zero_add, hsp]
  refine ⟨(sub_ers h id).upd (fun b e => ?_), ?_⟩
  · rw [ers_lit, if_pos rfl, hb] at e; injection e with e; subst e; exact ⟨rfl, rfl⟩
  generalize hT1 : (es.drop (i + (es.drop j).length)).flatten.map Cell.p ++ T = T1
  have hT1l : T1.length = (es.length - (i + (es.length - j))) * 6 + T.length := by
    rw [← hT1, List.length_append, List.length_map, okEs_len (ho.drop _), List.length_drop, hdl]
  have hT1low : lowCs 0 T1 = true := by rw [← hT1]; exact lowCs_app (lowCs_p _ _) hT
  have hnl : (es.take i ++ es.drop j).length = i + (es.length - j) := by rw [List.length_append, List.length_take, hdl]; omega
  have ho2 : okEs 6 (es.take i ++ es.drop j) := (ho.take i).append (ho.drop j)
  refine Ev ?_
  refine hK _ _ _ ?_; clear hK K
  refine Rg (fun E K hE hK => ?_)
  refine ⟨⟨by omega, by omega⟩, ⟨by omega, by omega⟩, ?_⟩
  have hne : ¬ cap = i + (es.length - j) := by omega
  rw [if_neg hne]
  refine BiR.of ?_
  refine BiK.clear (e := 60) (sz := 6) ty_slE_53 ty_tzero_60 rfl (by decide) (upd_same _ _ _) rfl (by simp only [List.length_append, List.length_map, okEs_len ho2, hnl, hT1l]; omega) ?_
  rw [spl_tail (by rw [List.length_map, okEs_len ho2, hnl]), upd_upd]
  refine Ev ?_
  refine hK _ _ _ ?_; clear hE hK K E
  refine Rk ?_
  refine AWP.ret ?_
  refine Ev ?_
  refine Ends.turn hn H hid (fun _ _ => rfl) (lowCs_app (lowCs_p _ _) (lowCs_app (lowCs_repl rfl _) (lowCs_mono (Nat.zero_le _) (lowCs_drop hT1low _)))) (r0 := .one (.win id ver 0 (es.take i ++ es.drop j).length cap))
    (by rw [show Tryd.f77.results.toList = [.tmp 6] from rfl, hnl]; exact Ec) (.one (.inl ⟨rfl, by simp [lowC, hid]⟩)) ⟨ver, cap, _, by omega, ?_, ?_, rfl, rfl⟩
  · simp only [List.length_append, List.length_drop, hT1l, hnl, repl_length, List.length_map, List.length_cons, List.length_nil]
    omega
  · exact lowCs_app (lowCs_repl rfl _) (lowCs_drop hT1low _)

end Go.Proofs.YtengjcdilnikhaaDoor
