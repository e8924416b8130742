/-
  Go's package slices at one type of elements: Clone.
-/
import Derived.Test.YtengjcdilnikhaaDoorSlBase
import Derived.Test.YtengjcdilnikhaaDoorTbSpec
namespace Go.Proofs.YtengjcdilnikhaaDoor
set_option linter.unusedSimpArgs false
set_option linter.unusedVariables false
set_option linter.unnecessarySimpa false
open Go Am
set_option maxRecDepth 100000

theorem clone_fl_ok (es : List (List PD)) (ho : okEs 6 es) (h : Heap) (b : Nat) (hl : es.length ≤ 1000000000) :
    ACalls Tryd.prog 75 [.one (.p (.sl 6 es))] h b 1 (rowR 6 es h b) := by
  refine ACalls.enter Tryd.func75 rfl (by simp [Tryd.ntmps75]) (fun ι w hn H => ?_)
  refine Rk ?_
  refine AWP.seq ?_
  refine Rg (fun E K hE hK => ?_)
  refine EqlR.nil_sl rfl (.inl rfl) (fun g hg => ?_)
  refine Ev ?_
  refine hK _ _ _ ?_; clear hE hK K E
  cases g
  · refine AWP.ifF (by exact Ec) ?_
    refine AWP.skip ?_
    refine Ev ?_
    refine Rg (fun E K hE hK => ?_)
    refine BiR.of ?_
    refine BiK.append_own (e := 60) (sz := 6) (bytes := 56) (m := es.length) (xs := es.flatten.map .p) ty_slE_53 ty_tsz_60 ty_tzero_60 rfl ty_tby_60 ty_isIntT_53 (upd_same _ _ _) rfl rfl (by simp [srcA]) (okEs_flat ho _) (by omega) (by decide) (by omega) (fun cap k h1 h2 => ?_)
    refine Ev ?_
    refine hK _ _ _ ?_; clear hE hK K E
    refine AWP.ret ?_
    refine Ev ?_
    refine Ends.row (id := b) (blk := ⟨1, es.flatten.map .p ++ List.replicate k .junk⟩) hn H (lowEq_upd (Nat.le_refl _) (fun _ _ => rfl)) (Nat.le_refl _) (upd_same _ _ _) (lowCs_app (lowCs_p _ _) (lowCs_junk _ _))
      (by rw [show Tryd.f75.results.toList = [.tmp 2] from rfl]; exact Ec) (renV.win0 _ _ _ _) ⟨1, cap, List.replicate k .junk, by omega, by rw [List.length_replicate]; omega, lowCs_junk _ _, rfl, rfl⟩
  · have he := hg rfl
    subst he
    refine AWP.ifT (by exact Ec) ?_
    refine Rk ?_
    refine AWP.virt 2 (by exact Ec) ?_
    refine AWP.ret ?_
    refine Ev ?_
    refine Ends.row (id := b) (blk := ⟨0, []⟩) hn H (lowEq_upd (Nat.le_refl _) (fun _ _ => rfl)) (Nat.le_refl _) (upd_same _ _ _) rfl
      (by rw [show Tryd.f75.results.toList = [.tmp 2] from rfl]; exact Ec) (renV.win0 _ _ _ _) ⟨0, 0, [], Nat.le_refl _, rfl, rfl, rfl, rfl⟩

end Go.Proofs.YtengjcdilnikhaaDoor
