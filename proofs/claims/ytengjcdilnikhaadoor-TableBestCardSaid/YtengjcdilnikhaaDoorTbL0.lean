/-
  Walks of table's laws: the example.
-/
import Derived.Test.YtengjcdilnikhaaDoorTbW3
namespace Go.Proofs.YtengjcdilnikhaaDoor
set_option linter.unusedSimpArgs false
set_option linter.unusedVariables false
set_option linter.unnecessarySimpa false
open Go Am
set_option maxRecDepth 100000

theorem delP_false (h : Heap) : delP h (fun _ => false) = h := by funext i; rfl
theorem put_nil (f : Fl) (h : Heap) (b : Nat) : ACalls Tryd.prog 36 [.one (.p (.v (.slice none 0 0))), FlV f] h b 0 (fun r h' => r = .tup [FlsV (putR [] f).1, IntV (putR [] f).2] ∧ h' = h) := by
  have c := Put_ok [] f (by simp) (delP h (fun _ => false)) b
  have c' := c.seal (fun _ => false) (.cons (.one (.p (.nil 6))) (.cons (.same _) .nil))
  rw [delP_false] at c'
  exact c'

def fbL : Fl := ⟨[98], 0, 0, 0, 0, 0⟩
def faL : Fl := ⟨[97], 0, 0, 0, 0, 0⟩
theorem put_b : putR [] fbL = ([fbL], 0) := putR_put (by decide) (by decide) (by decide)
theorem put_a : putR [fbL] faL = ([faL, fbL], 0) := by
  rw [putR_put (by decide) (by decide) (by decide)]
  unfold putL
  rw [if_neg (by decide), if_neg (by decide)]

theorem live_ok (h : Heap) (b : Nat) : ACalls Tryd.prog 34 [] h b 0 (fun r h' => r = BoolV true ∧ h' = h) := by
  refine ACalls.enter Tryd.func34 rfl (by simp [Tryd.ntmps34]) (fun ι w hn H => ?_)
  have cb : ∀ b' : Nat, ACalls Tryd.prog 36 [.one (.p (.v (.slice none 0 0))), .agg [.p (.v (.string ⟨#[98]⟩)), .p (.v (.float .f64 0)), .p (.v (.int .u32 0)), .p (.v (.int .i64 0)), .p (.v (.int .i64 0)), .p (.v (.int .i64 0))]] h b' 0 (fun r h' => r = .tup [FlsV [fbL], IntV 0] ∧ h' = h) := by
    intro b'
    have c := put_nil fbL h b'
    rw [put_b] at c
    exact c
  have ca : ∀ b' : Nat, ACalls Tryd.prog 36 [FlsV [fbL], .agg [.p (.v (.string ⟨#[97]⟩)), .p (.v (.float .f64 0)), .p (.v (.int .u32 0)), .p (.v (.int .i64 0)), .p (.v (.int .i64 0)), .p (.v (.int .i64 0))]] h b' 0 (fun r h' => r = .tup [FlsV [faL, fbL], IntV 0] ∧ h' = h) := by
    intro b'
    have c := Put_ok [fbL] faL (by simp) h b'
    rw [put_a] at c
    exact c
  refine Rk ?_
  refine Rg (fun E K hE hK => ?_)
  refine Us (cb _) body_36 ?_
  refine hK _ _ _ ?_; clear hE hK K E
  refine Rg (fun E K hE hK => ?_)
  refine Us (ca _) body_36 ?_
  refine hK _ _ _ ?_; clear hE hK K E
  have hc2 : ((2 : Nat) : Int) = 2 := rfl
  have hgd : [encF faL, encF fbL].getD (Int.toNat 0) [] = encF faL := rfl
  have h97 : ((mkS faL.name).data.toList = (#[97] : Array UInt8).toList) = True := eq_true rfl
  refine Rgf (jn3 @hc2 @hgd @h97) (fun E K hE hK => ?_)
  refine ⟨⟨by decide, by decide⟩, ?_⟩
  simp -implicitDefEqProofs only [go_sem, ↓reduceIte, Nat.reduceEqDiff, Nat.reduceAdd, Nat.reduceLT, Nat.reduceLeDiff, reduceCtorEq, Int.toNat_natCast, hgd, encF, h97, decide_true]
  refine hK _ _ _ ?_; clear hE hK K E
  refine AWP.ret ?_
  exact Ends.pure hn H (fun _ _ => rfl) (r0 := BoolV true) (by rw [show Tryd.f34.results.toList = [.tmp 0] from rfl]; exact Er) (.v _) ⟨rfl, rfl⟩

end Go.Proofs.YtengjcdilnikhaaDoor
