/-
  Walks of package wire: One, the example.
-/
import Derived.Test.YthnhpbihgalgeaaDoorWiW2
namespace Go.Proofs.YthnhpbihgalgeaaDoor
set_option linter.unusedSimpArgs false
set_option linter.unusedVariables false
set_option linter.unnecessarySimpa false
open Go Am
set_option maxRecDepth 100000

/-- a literal's one file, as one who only reads sees it -/
theorem view_fl1 {h : Heap} {D : Nat → Bool} {id : Nat} (f : Fl) (hD : D id = true) (hb : h id = some ⟨0, (encF f).map .p⟩) : ViewC h D (.win id 0 0 1 1) (.p (.sl 6 [encF f])) :=
  @view_rowT h D id 0 6 1 0 0 1 [encF f] [] hD (by rw [hb]; rfl) (okEs_fl [f]) (by simp) rfl
theorem view_octs {h : Heap} {D : Nat → Bool} {id ver cap : Nat} {T : List Cell} (m : S) (hD : D id = true) (hb : h id = some (rowB ver (m.map encO) T)) : ViewC h D (.win id ver 0 m.length cap) (.p (.sl 1 (m.map encO))) := by
  have hlm : (m.map encO).length = m.length := List.length_map _
  have vw := view_rowT (h := h) (D := D) (id := id) (ver := ver) (sz := 1) (m := m.length) (j := 0) (off := 0) (cap := cap) hD hb (okEs_oct m) (by rw [hlm]; omega) rfl
  rw [List.drop_zero, ← hlm, List.take_length, hlm] at vw
  exact vw
theorem check_lend (f : Fl) {hh : Heap} {id : Nat} (hb : hh id = some ⟨0, (encF f).map .p⟩) (b : Nat) : ACalls Tryd.prog 21 [.one (.win id 0 0 1 1)] hh b 0 (fun r h' => r = IntV (checkT [f]) ∧ h' = hh) :=
  (tCheck_ok [f] (by simp) noH b).lend (.cons (.one (view_fl1 f rfl hb)) .nil) (.one _)
theorem sameB_lend (s m : S) {hh : Heap} {id ver cap : Nat} {T : List Cell} (hb : hh id = some (rowB ver (m.map encO) T)) (b : Nat) :
    ACalls Tryd.prog 12 [OctV s, .one (.win id ver 0 m.length cap)] hh b 0 (fun r h' => r = BoolV (decide (s = m)) ∧ h' = hh) :=
  (sameB_ok s m noH b).lend (.cons (.same _) (.cons (.one (view_octs m rfl hb)) .nil)) (.one _)

theorem one_ok (f : Fl) (hs : 0 ≤ f.sum ∧ f.sum < 4294967296) (h : Heap) (b : Nat) :
    ACalls Tryd.prog 11 [FlV f] h b 0 (fun r h' => r = .tup [OctV (oneB f).1, IntV (oneB f).2] ∧ h' = h) := by
  refine ACalls.enter Tryd.func11 rfl (by simp [Tryd.ntmps11]) (fun ι w hn H => ?_)
  refine Rk ?_
  refine AWP.seq ?_
  refine Rg (fun E K hE hK => ?_)
  refine Us (check_lend f (id := b + 1) (by exact Er) _) body_21 ?_
  refine hK _ _ _ ?_; clear hE hK K E
  by_cases c1 : checkT [f] = 0
  case neg =>
    refine Rkf @c1 ?_
    refine Bt ?_
    refine Rk ?_
    refine AWP.ret ?_
    refine Ev ?_
    exact Ends.pure hn H Ou (r0 := .tup [.one (.p (.v (.slice none 0 0))), IntV (checkT [f])]) (by rw [show Tryd.f11.results.toList = [.tmp 2, .tmp 3] from rfl]; exact Er) (frz_tup2 (.one (frz_nil 1)) (.v _)) ⟨by unfold oneB; rw [if_neg c1]; rfl, rfl⟩
  have hf : FlBd f := ⟨by rw [checkT_one] at c1; by_cases h : mayF f = true; exact h; rw [if_neg h] at c1; exact absurd c1 (by decide), hs⟩
  refine Rkf @c1 ?_
  refine Bs ?_
  refine Rg (fun E K hE hK => ?_)
  refine CallR.use (file_nil_ok f hf _ _) body_23 ?_
  rintro _ _ ⟨ver, cap, T, g1, g2, g3, rfl, rfl⟩
  refine Ev ?_
  refine hK _ _ _ ?_; clear hE hK K E
  refine AWP.frz 2 (cap := cap) (len := (fileB f).length) (off := 0) (id := b + 2) 1 ((fileB f).map encO) (by exact Er) (by exact Er) rfl (by rw [List.length_map]) (okEs_oct _).len (row_cells (okEs_oct _) ver _) ?_
  refine AWP.ret ?_
  refine Ev ?_
  exact Ends.pure hn H (fun id (hid : id < b) => by simp -implicitDefEqProofs only [go_sem, ↓reduceIte, Nat.reduceEqDiff, Nat.reduceAdd, Nat.reduceLT, Nat.reduceLeDiff, reduceCtorEq, Int.toNat_natCast, delH, show ¬ id = b by omega, show ¬ id = b + 1 by omega, show ¬ id = b + 2 by omega]) (r0 := .tup [OctV (fileB f), IntV 0]) (by rw [show Tryd.f11.results.toList = [.tmp 2, .tmp 3] from rfl]; exact Er) (frz_tup2 (frzV.p _) (.v _)) ⟨by unfold oneB; rw [if_pos c1], rfl⟩

theorem bytes_nil (h : Heap) (b : Nat) : ACalls Tryd.prog 10 [.one (.p (.v (.slice none 0 0)))] h b 0 (fun r h' => r = .tup [OctV [0, 0], IntV 0] ∧ h' = h) := by
  have c := bytes_ok [] (by simp) (by decide) (delP h (fun _ => false)) b
  exact c.seal (fun _ => false) (.cons (.one (.p (.nil 6))) .nil)

theorem live_ok (h : Heap) (b : Nat) : ACalls Tryd.prog 8 [] h b 0 (fun r h' => r = BoolV true ∧ h' = h) := by
  refine ACalls.enter Tryd.func8 rfl (by simp [Tryd.ntmps8]) (fun ι w hn H => ?_)
  have ho : octT Tryd.prog 25 9 = true := by kernel_rfl
  refine Rk ?_
  refine Rg (fun E K hE hK => ?_)
  refine Us (bytes_nil _ _) body_10 ?_
  refine hK _ _ _ ?_; clear hE hK K E
  have e1 : octE [encO 0, encO 0] = some [0, 0] := octE_map [0, 0]
  have e2 : octC [.p (.v (.int .u8 0)), .p (.v (.int .u8 0))] = some [0, 0] := octC_map [0, 0]
  refine Rgf (jn3 @ho @e1 @e2) (fun E K hE hK => ?_)
  refine ⟨by decide, ?_⟩
  refine hK _ _ _ ?_; clear hE hK K E
  refine AWP.ret ?_
  exact Ends.pure hn H Ou (r0 := BoolV true) (by rw [show Tryd.f8.results.toList = [.tmp 0] from rfl]; exact Er) (.v _) ⟨rfl, rfl⟩
end Go.Proofs.YthnhpbihgalgeaaDoor
