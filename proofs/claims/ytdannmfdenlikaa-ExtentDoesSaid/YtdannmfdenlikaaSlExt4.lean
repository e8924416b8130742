/-
  Go's package slices at one type of elements: Replace.
-/
import Derived.Test.YtdannmfdenlikaaSlExt3
namespace Go.Proofs.Ytdannmfdenlikaa
set_option linter.unusedSimpArgs false
set_option linter.unusedVariables false
set_option linter.unnecessarySimpa false
open Go Am
set_option maxRecDepth 100000

theorem replace_ext_ok (es vs : List (List PD)) (ho : okEs 2 es) (hv : okEs 2 vs) (h : Heap) (b id ver cap i j : Nat) (T : List Cell) (hid : id < b) (hb : h id = some (rowB ver es T)) (hT : lowCs 0 T = true) (hcap : es.length ≤ cap)
    (hc : cap * 2 = es.length * 2 + T.length) (hij : i ≤ j) (hj : j ≤ es.length) (hl : es.length ≤ 1000000000) (hl2 : vs.length ≤ 1000000000) :
    ACalls Try.prog 29 [.one (.win id ver 0 es.length cap), IntV i, IntV j, .one (.p (.sl 2 vs))] h b 0 (rowR 2 (es.take i ++ (vs ++ es.drop j)) h id) := by
  refine ACalls.enter Try.func29 rfl (by simp [Try.ntmps29]) (fun ι w hn H => ?_)
  have hlow := H.lowCells
  have hfl := okEs_len ho
  have hfv := okEs_len hv
  have htl : (es.take i).length = i := by rw [List.length_take]; omega
  have hdl : (es.drop j).length = es.length - j := by simp
  have hrl : (es.take i ++ (vs ++ es.drop j)).length = i + vs.length + (es.length - j) := by rw [List.length_append, List.length_append, htl, hdl]; omega
  have hBl : ((es.drop j).flatten.map Cell.p).length = (es.length - j) * 2 := by rw [List.length_map, okEs_len (ho.drop j), hdl]
  have hVl : (vs.flatten.map Cell.p).length = vs.length * 2 := by rw [List.length_map, hfv]
  have hAl : ((es.take i).flatten.map Cell.p).length = i * 2 := by rw [List.length_map, okEs_len (ho.take i), htl]
  have htake : (rowB ver es T).cells.take (i * 2) = (es.take i).flatten.map .p := by
    show (es.flatten.map Cell.p ++ T).take (i * 2) = _
    rw [List.take_append_of_le_length (by rw [List.length_map, hfl]; omega), ← List.map_take, flatten_take 2 i es ho.len]
  refine AWP.seqReg (by kernel_rfl) (fun E K hE hK => ?_); simp -implicitDefEqProofs only [go_sem, ↓reduceIte, Nat.reduceEqDiff, Nat.reduceAdd, Nat.reduceMul, Nat.reduceLT, Nat.reduceLeDiff, reduceCtorEq, Int.toNat_natCast]; refine hK _ _ _ ?_; clear hE hK K E
  refine AWP.seqReg (by kernel_rfl) (fun E K hE hK => ?_); simp -implicitDefEqProofs only [go_sem, ↓reduceIte, Nat.reduceEqDiff, Nat.reduceAdd, Nat.reduceMul, Nat.reduceLT, Nat.reduceLeDiff, reduceCtorEq, Int.toNat_natCast, hb]
  refine ⟨⟨by omega, by omega⟩, ⟨by omega, by omega⟩, ?_⟩
  refine hK _ _ _ ?_; clear hE hK K E
  refine AWP.seq ?_
  refine AWP.seqReg (by kernel_rfl) (fun E K hE hK => ?_); simp -implicitDefEqProofs only [go_sem, ↓reduceIte, Nat.reduceEqDiff, Nat.reduceAdd, Nat.reduceMul, Nat.reduceLT, Nat.reduceLeDiff, reduceCtorEq, Int.toNat_natCast]; refine hK _ _ _ ?_; clear hE hK K E
  by_cases hij2 : (i : Int) = j
  · have hij3 : i = j := by omega
    subst hij3
    refine AWP.ifT (by simp -implicitDefEqProofs only [go_sem, ↓reduceIte, Nat.reduceEqDiff, Nat.reduceAdd, Nat.reduceMul, Nat.reduceLT, Nat.reduceLeDiff, reduceCtorEq, Int.toNat_natCast, hij2]) ?_
    refine AWP.seqReg (by kernel_rfl) (fun E K hE hK => ?_); simp -implicitDefEqProofs only [go_sem, ↓reduceIte, Nat.reduceEqDiff, Nat.reduceAdd, Nat.reduceMul, Nat.reduceLT, Nat.reduceLeDiff, reduceCtorEq, Int.toNat_natCast]
    refine CallR.use (insert_ext_ok es vs ho hv _ _ id ver cap i T (by omega) hb hT hcap hc hj hl hl2) body_40 ?_
    rintro _ _ ⟨ver', cap', T', g1, g2, g3, rfl, rfl⟩
    simp -implicitDefEqProofs only [go_sem, ↓reduceIte, Nat.reduceEqDiff, Nat.reduceAdd, Nat.reduceMul, Nat.reduceLT, Nat.reduceLeDiff, reduceCtorEq, Int.toNat_natCast]
    refine hK _ _ _ ?_; clear hE hK K E
    refine AWP.ret ?_
    simp -implicitDefEqProofs only [go_sem, ↓reduceIte, Nat.reduceEqDiff, Nat.reduceAdd, Nat.reduceMul, Nat.reduceLT, Nat.reduceLeDiff, reduceCtorEq, Int.toNat_natCast]
    refine Ends.turn hn H hid (fun _ _ => rfl) (lowCs_app (lowCs_p _ _) (lowCs_mono (Nat.zero_le _) g3)) (r0 := .one (.win id ver' 0 (es.take i ++ (vs ++ es.drop i)).length cap'))
      (by rw [show Try.f29.results.toList = [.tmp 8] from rfl]; simp -implicitDefEqProofs only [go_sem, ↓reduceIte, Nat.reduceEqDiff, Nat.reduceAdd, Nat.reduceMul, Nat.reduceLT, Nat.reduceLeDiff, reduceCtorEq, Int.toNat_natCast]) (.one (.inl ⟨rfl, by simp [lowC, hid]⟩)) ⟨ver', cap', T', g1, g2, g3, rfl, rfl⟩
  refine AWP.ifF (by simp -implicitDefEqProofs only [go_sem, ↓reduceIte, Nat.reduceEqDiff, Nat.reduceAdd, Nat.reduceMul, Nat.reduceLT, Nat.reduceLeDiff, reduceCtorEq, Int.toNat_natCast, hij2]) ?_
  refine AWP.skip ?_
  simp -implicitDefEqProofs only [go_sem, ↓reduceIte, Nat.reduceEqDiff, Nat.reduceAdd, Nat.reduceMul, Nat.reduceLT, Nat.reduceLeDiff, reduceCtorEq, Int.toNat_natCast]
  refine AWP.seq ?_
  refine AWP.seqReg (by kernel_rfl) (fun E K hE hK => ?_); simp -implicitDefEqProofs only [go_sem, ↓reduceIte, Nat.reduceEqDiff, Nat.reduceAdd, Nat.reduceMul, Nat.reduceLT, Nat.reduceLeDiff, reduceCtorEq, Int.toNat_natCast, hb]; refine hK _ _ _ ?_; clear hE hK K E
  by_cases hjn : (j : Int) = es.length
  · have hjn' : j = es.length := by omega
    have hdn : es.drop j = [] := List.drop_of_length_le (by omega)
    refine AWP.ifT (by simp -implicitDefEqProofs only [go_sem, ↓reduceIte, Nat.reduceEqDiff, Nat.reduceAdd, Nat.reduceMul, Nat.reduceLT, Nat.reduceLeDiff, reduceCtorEq, Int.toNat_natCast, hjn]) ?_
    refine AWP.seqReg (by kernel_rfl) (fun E K hE hK => ?_); simp -implicitDefEqProofs only [go_sem, ↓reduceIte, Nat.reduceEqDiff, Nat.reduceAdd, Nat.reduceMul, Nat.reduceLT, Nat.reduceLeDiff, reduceCtorEq, Int.toNat_natCast, hb]
    refine ⟨⟨by omega, by omega⟩, ?_⟩
    by_cases hgr : cap < i + vs.length
    · have hsr := srcA_row (cap := cap) (off := 0) (m := i) 0 hb ho (by omega) (.inl (by omega))
      rw [List.drop_zero] at hsr
      have hne : ¬ id = b := by omega
      have hne' : ¬ b = id := by omega
      refine BiR.of ?_
      refine BiK.append_grow (e := 33) (sz := 2) (bytes := 16) (m := vs.length) (ys := vs.flatten.map .p) ty_slE_24 ty_tsz_33 ty_tzero_33 rfl ty_tby_33 ty_isIntT_24 (by simp -implicitDefEqProofs only [go_sem, ↓reduceIte, Nat.reduceEqDiff, Nat.reduceAdd, Nat.reduceMul, Nat.reduceLT, Nat.reduceLeDiff, reduceCtorEq, Int.toNat_natCast, hb]) hsr (by simp [srcA]) hgr (by omega) (by decide) (by omega) (fun cap' k h1 h2 => ?_)
      simp -implicitDefEqProofs only [go_sem, ↓reduceIte, Nat.reduceEqDiff, Nat.reduceAdd, Nat.reduceMul, Nat.reduceLT, Nat.reduceLeDiff, reduceCtorEq, Int.toNat_natCast]
      refine hK _ _ _ ?_; clear hE hK K E
      refine AWP.seq ?_
      refine AWP.seqReg (by kernel_rfl) (fun E K hE hK => ?_); simp -implicitDefEqProofs only [go_sem, ↓reduceIte, Nat.reduceEqDiff, Nat.reduceAdd, Nat.reduceMul, Nat.reduceLT, Nat.reduceLeDiff, reduceCtorEq, Int.toNat_natCast, hb, hne, hne']; refine hK _ _ _ ?_; clear hE hK K E
      refine AWP.ifF (by simp -implicitDefEqProofs only [go_sem, ↓reduceIte, Nat.reduceEqDiff, Nat.reduceAdd, Nat.reduceMul, Nat.reduceLT, Nat.reduceLeDiff, reduceCtorEq, Int.toNat_natCast, show ¬ ((i + vs.length : Nat) : Int) < es.length by omega]) ?_
      refine AWP.skip ?_
      simp -implicitDefEqProofs only [go_sem, ↓reduceIte, Nat.reduceEqDiff, Nat.reduceAdd, Nat.reduceMul, Nat.reduceLT, Nat.reduceLeDiff, reduceCtorEq, Int.toNat_natCast]
      refine AWP.seqReg (by kernel_rfl) (fun E K hE hK => ?_); simp -implicitDefEqProofs only [go_sem, ↓reduceIte, Nat.reduceEqDiff, Nat.reduceAdd, Nat.reduceMul, Nat.reduceLT, Nat.reduceLeDiff, reduceCtorEq, Int.toNat_natCast]; refine hK _ _ _ ?_; clear hE hK K E
      refine AWP.ret ?_
      simp -implicitDefEqProofs only [go_sem, ↓reduceIte, Nat.reduceEqDiff, Nat.reduceAdd, Nat.reduceMul, Nat.reduceLT, Nat.reduceLeDiff, reduceCtorEq, Int.toNat_natCast]
      refine Ends.move hn H hid hb (fun k hk _ => upd_ne _ _ _ _ (Nat.ne_of_lt hk)) (Nat.le_refl _) (upd_same _ _ _) rfl (lowCs_app (lowCs_p _ _) (lowCs_app (lowCs_p _ _) (lowCs_junk _ _))) (off := 0) (len := i + vs.length) (cap := cap')
        (by rw [show Try.f29.results.toList = [.tmp 8] from rfl]; simp -implicitDefEqProofs only [go_sem, ↓reduceIte, Nat.reduceEqDiff, Nat.reduceAdd, Nat.reduceMul, Nat.reduceLT, Nat.reduceLeDiff, reduceCtorEq, Int.toNat_natCast]) ?_
      refine ⟨ver + 1, cap', List.replicate k .junk, by omega, by rw [List.length_replicate]; omega, lowCs_junk _ _, by rw [hrl]; congr 2; omega, ?_⟩
      rw [hdn, List.append_nil, rowB_app]
    · refine BiR.of ?_
      refine BiK.append_in (e := 33) (sz := 2) (m := vs.length) (xs := vs.flatten.map .p) ty_slE_24 ty_tsz_33 ty_isIntT_24 hb rfl (by simp [srcA]) (okEs_flat hv _) (by omega) (by simp only [List.length_append, List.length_map, hfl]; omega) ?_
      have hB : es.flatten.map Cell.p ++ T = (es.take i).flatten.map .p ++ ((es.drop i).flatten.map .p ++ T) := by rw [← List.append_assoc, ← List.map_append, ← List.flatten_append, List.take_append_drop]
      have hsp : spl (es.flatten.map Cell.p ++ T) (0 + i * 2) (vs.flatten.map .p) = (es.take i ++ vs).flatten.map .p ++ ((es.drop i).flatten.map Cell.p ++ T).drop (vs.length * 2) := by
        rw [hB, spl_tail (by rw [hAl, Nat.zero_add]), hVl, List.flatten_append, List.map_append, List.append_assoc]
      have hT1low : lowCs 0 (((es.drop i).flatten.map Cell.p ++ T).drop (vs.length * 2)) = true := lowCs_drop (lowCs_app (lowCs_p _ _) hT) _
      have hT1l : (((es.drop i).flatten.map Cell.p ++ T).drop (vs.length * 2)).length = (es.length - i) * 2 + T.length - vs.length * 2 := by
        rw [List.length_drop, List.length_append, List.length_map, okEs_len (ho.drop i), List.length_drop]
      generalize ((es.drop i).flatten.map Cell.p ++ T).drop (vs.length * 2) = T1 at hsp hT1low hT1l
      have ho1 : okEs 2 (es.take i ++ vs) := (ho.take i).append hv
      have h1l : (es.take i ++ vs).length = i + vs.length := by rw [List.length_append, htl]
      have he1 : es.take i ++ (vs ++ es.drop j) = es.take i ++ vs := by rw [hdn, List.append_nil]
      have hf1 := okEs_len ho1
      rw [h1l] at hf1
      simp only [hsp]
      generalize hE1 : es.take i ++ vs = e1 at ho1 h1l hf1 ⊢
      simp -implicitDefEqProofs only [go_sem, ↓reduceIte, Nat.reduceEqDiff, Nat.reduceAdd, Nat.reduceMul, Nat.reduceLT, Nat.reduceLeDiff, reduceCtorEq, Int.toNat_natCast]
      refine hK _ _ _ ?_; clear hE hK K E
      refine AWP.seq ?_
      refine AWP.seqReg (by kernel_rfl) (fun E K hE hK => ?_); simp -implicitDefEqProofs only [go_sem, ↓reduceIte, Nat.reduceEqDiff, Nat.reduceAdd, Nat.reduceMul, Nat.reduceLT, Nat.reduceLeDiff, reduceCtorEq, Int.toNat_natCast]; refine hK _ _ _ ?_; clear hE hK K E
      by_cases hcl : ((i + vs.length : Nat) : Int) < es.length
      · refine AWP.ifT (by simp -implicitDefEqProofs only [go_sem, ↓reduceIte, Nat.reduceEqDiff, Nat.reduceAdd, Nat.reduceMul, Nat.reduceLT, Nat.reduceLeDiff, reduceCtorEq, Int.toNat_natCast, hcl]) ?_
        refine AWP.reg (by kernel_rfl) (fun E K hE hK => ?_); simp -implicitDefEqProofs only [go_sem, ↓reduceIte, Nat.reduceEqDiff, Nat.reduceAdd, Nat.reduceMul, Nat.reduceLT, Nat.reduceLeDiff, reduceCtorEq, Int.toNat_natCast, show ¬ cap = i + vs.length by omega]
        refine ⟨⟨by omega, by omega⟩, ?_⟩
        refine BiR.of ?_
        refine BiK.clear (e := 33) (sz := 2) ty_slE_24 ty_tzero_33 rfl (by decide) (upd_same _ _ _) rfl (by simp only [List.length_append, List.length_map, hf1]; omega) ?_
        rw [spl_tail (by rw [List.length_map, hf1]), upd_upd]
        simp -implicitDefEqProofs only [go_sem, ↓reduceIte, Nat.reduceEqDiff, Nat.reduceAdd, Nat.reduceMul, Nat.reduceLT, Nat.reduceLeDiff, reduceCtorEq, Int.toNat_natCast]
        refine hK _ _ _ ?_; clear hE hK K E
        simp -implicitDefEqProofs only [go_sem, ↓reduceIte, Nat.reduceEqDiff, Nat.reduceAdd, Nat.reduceMul, Nat.reduceLT, Nat.reduceLeDiff, reduceCtorEq, Int.toNat_natCast]
        refine AWP.seqReg (by kernel_rfl) (fun E K hE hK => ?_); simp -implicitDefEqProofs only [go_sem, ↓reduceIte, Nat.reduceEqDiff, Nat.reduceAdd, Nat.reduceMul, Nat.reduceLT, Nat.reduceLeDiff, reduceCtorEq, Int.toNat_natCast]; refine hK _ _ _ ?_; clear hE hK K E
        refine AWP.ret ?_
        simp -implicitDefEqProofs only [go_sem, ↓reduceIte, Nat.reduceEqDiff, Nat.reduceAdd, Nat.reduceMul, Nat.reduceLT, Nat.reduceLeDiff, reduceCtorEq, Int.toNat_natCast]
        subst hE1
        refine Ends.turn hn H hid (fun _ _ => rfl) (lowCs_app (lowCs_p _ _) (lowCs_app (lowCs_repl rfl _) (lowCs_mono (Nat.zero_le _) (lowCs_drop hT1low _)))) (r0 := .one (.win id ver 0 (i + vs.length) cap))
          (by rw [show Try.f29.results.toList = [.tmp 8] from rfl]; simp -implicitDefEqProofs only [go_sem, ↓reduceIte, Nat.reduceEqDiff, Nat.reduceAdd, Nat.reduceMul, Nat.reduceLT, Nat.reduceLeDiff, reduceCtorEq, Int.toNat_natCast]) (.one (.inl ⟨rfl, by simp [lowC, hid]⟩)) ?_
        rw [he1]
        refine ⟨ver, cap, _, by omega, ?_, lowCs_app (lowCs_repl rfl _) (lowCs_drop hT1low _), by rw [h1l], rfl⟩
        simp only [List.length_append, List.length_drop, hT1l, htl, repl_length, List.length_map, List.length_cons, List.length_nil]
        omega
      · refine AWP.ifF (by simp -implicitDefEqProofs only [go_sem, ↓reduceIte, Nat.reduceEqDiff, Nat.reduceAdd, Nat.reduceMul, Nat.reduceLT, Nat.reduceLeDiff, reduceCtorEq, Int.toNat_natCast, hcl]) ?_
        refine AWP.skip ?_
        simp -implicitDefEqProofs only [go_sem, ↓reduceIte, Nat.reduceEqDiff, Nat.reduceAdd, Nat.reduceMul, Nat.reduceLT, Nat.reduceLeDiff, reduceCtorEq, Int.toNat_natCast]
        refine AWP.seqReg (by kernel_rfl) (fun E K hE hK => ?_); simp -implicitDefEqProofs only [go_sem, ↓reduceIte, Nat.reduceEqDiff, Nat.reduceAdd, Nat.reduceMul, Nat.reduceLT, Nat.reduceLeDiff, reduceCtorEq, Int.toNat_natCast]; refine hK _ _ _ ?_; clear hE hK K E
        refine AWP.ret ?_
        simp -implicitDefEqProofs only [go_sem, ↓reduceIte, Nat.reduceEqDiff, Nat.reduceAdd, Nat.reduceMul, Nat.reduceLT, Nat.reduceLeDiff, reduceCtorEq, Int.toNat_natCast]
        subst hE1
        rw [he1]
        refine Ends.turn hn H hid (fun _ _ => rfl) (lowCs_app (lowCs_p _ _) (lowCs_mono (Nat.zero_le _) hT1low)) (r0 := .one (.win id ver 0 (i + vs.length) cap))
          (by rw [show Try.f29.results.toList = [.tmp 8] from rfl]; simp -implicitDefEqProofs only [go_sem, ↓reduceIte, Nat.reduceEqDiff, Nat.reduceAdd, Nat.reduceMul, Nat.reduceLT, Nat.reduceLeDiff, reduceCtorEq, Int.toNat_natCast]) (.one (.inl ⟨rfl, by simp [lowC, hid]⟩)) ⟨ver, cap, T1, by omega, by omega, hT1low, by rw [h1l], rfl⟩
  refine AWP.ifF (by simp -implicitDefEqProofs only [go_sem, ↓reduceIte, Nat.reduceEqDiff, Nat.reduceAdd, Nat.reduceMul, Nat.reduceLT, Nat.reduceLeDiff, reduceCtorEq, Int.toNat_natCast, hjn]) ?_
  refine AWP.skip ?_
  simp -implicitDefEqProofs only [go_sem, ↓reduceIte, Nat.reduceEqDiff, Nat.reduceAdd, Nat.reduceMul, Nat.reduceLT, Nat.reduceLeDiff, reduceCtorEq, Int.toNat_natCast]
  have hw1 : IntKind.i64.wrap ((i : Int) + vs.length) = ((i + vs.length : Nat) : Int) := by rw [wrap_i64 (by omega) (by omega)]; omega
  have hw2 : IntKind.i64.wrap (((i + vs.length : Nat) : Int) + ((es.length - j : Nat) : Int)) = ((i + vs.length + (es.length - j) : Nat) : Int) := by rw [wrap_i64 (by omega) (by omega)]; omega
  have hci : ¬ cap = i := by omega
  have hcj : ¬ cap = j := by omega
  refine AWP.seqRegD [] [] [] mixed (by kernel_rfl) (by kernel_rfl) (fun K hK => .inl ?_) (by kernel_rfl); simp -implicitDefEqProofs only [go_sem, ↓reduceIte, Nat.reduceEqDiff, Nat.reduceAdd, Nat.reduceMul, Nat.reduceLT, Nat.reduceLeDiff, reduceCtorEq, Int.toNat_natCast, hb, hw1, hw2]
  refine ⟨⟨by omega, by omega⟩, ⟨by omega, by omega⟩, ?_⟩
  refine hK _ _ _ ?_; clear hK K
  generalize hN : i + vs.length + (es.length - j) = N at hrl ⊢
  refine AWP.seq ?_
  refine AWP.seqReg (by kernel_rfl) (fun E K hE hK => ?_); simp -implicitDefEqProofs only [go_sem, ↓reduceIte, Nat.reduceEqDiff, Nat.reduceAdd, Nat.reduceMul, Nat.reduceLT, Nat.reduceLeDiff, reduceCtorEq, Int.toNat_natCast, hb]; refine hK _ _ _ ?_; clear hE hK K E
  by_cases hgr : cap < N
  · refine AWP.ifT (by simp -implicitDefEqProofs only [go_sem, ↓reduceIte, Nat.reduceEqDiff, Nat.reduceAdd, Nat.reduceMul, Nat.reduceLT, Nat.reduceLeDiff, reduceCtorEq, Int.toNat_natCast, show (cap : Int) < (N : Int) by omega]) ?_
    have hw4 : IntKind.i64.wrap ((N : Int) - i) = ((N - i : Nat) : Int) := by rw [wrap_i64 (by omega) (by omega)]; omega
    refine AWP.seqReg (by kernel_rfl) (fun E K hE hK => ?_); simp -implicitDefEqProofs only [go_sem, ↓reduceIte, Nat.reduceEqDiff, Nat.reduceAdd, Nat.reduceMul, Nat.reduceLT, Nat.reduceLeDiff, reduceCtorEq, Int.toNat_natCast, hb, hw4]
    refine ⟨⟨by omega, by omega⟩, ?_⟩
    have hsr := srcA_row (cap := cap) (off := 0) (m := i) 0 hb ho (by omega) (.inl (by omega))
    rw [List.drop_zero] at hsr
    have hne : ¬ id = b := by omega
    have hne' : ¬ b = id := by omega
    refine BiR.of ?_
    refine BiK.append_mk (e := 33) (sz := 2) (bytes := 16) (zs := [.int .i64 0, .int .i64 0]) ty_slE_24 ty_tsz_33 ty_tzero_33 rfl ty_tby_33 ty_intK_3 (by simp -implicitDefEqProofs only [go_sem, ↓reduceIte, Nat.reduceEqDiff, Nat.reduceAdd, Nat.reduceMul, Nat.reduceLT, Nat.reduceLeDiff, reduceCtorEq, Int.toNat_natCast, hb]) hsr (by omega) (by omega) (by decide) (by omega) (fun cap' k h1 h2 => ?_)
    have hsum : i + (N - i) = N := by omega
    rw [hsum] at h1 h2
    rw [rowB_zeros, hsum]
    have hz0 : okEs 2 (List.replicate (N - i) (List.map PD.v [.int .i64 0, .int .i64 0])) := okEs_replicate rfl (by decide) _
    have hoz : okEs 2 (es.take i ++ List.replicate (N - i) (List.map PD.v [.int .i64 0, .int .i64 0])) := (ho.take i).append hz0
    have hozl : (es.take i ++ List.replicate (N - i) (List.map PD.v [.int .i64 0, .int .i64 0])).length = N := by rw [List.length_append, htl, List.length_replicate]; omega
    have hoz1 : (es.take i ++ List.replicate (N - i) (List.map PD.v [.int .i64 0, .int .i64 0])).take i = es.take i := by rw [List.take_append_of_le_length (by omega), List.take_of_length_le (by omega)]
    have hfz := okEs_len hoz
    rw [hozl] at hfz
    generalize es.take i ++ List.replicate (N - i) (List.map PD.v [.int .i64 0, .int .i64 0]) = e1 at hoz hozl hfz hoz1 ⊢
    simp -implicitDefEqProofs only [go_sem, ↓reduceIte, Nat.reduceEqDiff, Nat.reduceAdd, Nat.reduceMul, Nat.reduceLT, Nat.reduceLeDiff, reduceCtorEq, Int.toNat_natCast]
    refine hK _ _ _ ?_; clear hE hK K E
    refine AWP.seqReg (by kernel_rfl) (fun E K hE hK => ?_); simp -implicitDefEqProofs only [go_sem, ↓reduceIte, Nat.reduceEqDiff, Nat.reduceAdd, Nat.reduceMul, Nat.reduceLT, Nat.reduceLeDiff, reduceCtorEq, Int.toNat_natCast, show ¬ cap' = i by omega]
    refine ⟨⟨by omega, by omega⟩, ?_⟩
    refine BiR.of ?_
    refine BiK.copy (e := 33) (sz := 2) (m := vs.length) (xs := vs.flatten.map .p) ty_slE_24 ty_tsz_33 (upd_same _ _ _) rfl (by simp [srcA]) (fun c hc => okEs_flat hv _ c (List.mem_of_mem_take hc)) (by simp only [List.length_append, List.length_map, hfz, List.length_replicate]; omega) ?_
    rw [Nat.min_eq_left (by omega), List.take_of_length_le (by rw [List.length_map, hfv]; exact Nat.le_refl _), spl_els _ hoz hv (by omega) 0 rfl, hoz1]
    have hd2 : (es.take i ++ (vs ++ e1.drop (i + vs.length))).length = N := by rw [List.length_append, List.length_append, List.length_drop, htl, hozl]; omega
    have ho2 : okEs 2 (es.take i ++ (vs ++ e1.drop (i + vs.length))) := (ho.take i).append (hv.append (hoz.drop _))
    have ho2t : (es.take i ++ (vs ++ e1.drop (i + vs.length))).take (i + vs.length) = es.take i ++ vs := by
      rw [← List.append_assoc, List.take_append_of_le_length (by rw [List.length_append, htl]; omega), List.take_of_length_le (by rw [List.length_append, htl]; omega)]
    have hf2 := okEs_len ho2
    rw [hd2] at hf2
    generalize es.take i ++ (vs ++ e1.drop (i + vs.length)) = e2 at hd2 ho2 ho2t hf2 ⊢
    simp -implicitDefEqProofs only [go_sem, ↓reduceIte, Nat.reduceEqDiff, Nat.reduceAdd, Nat.reduceMul, Nat.reduceLT, Nat.reduceLeDiff, reduceCtorEq, Int.toNat_natCast]
    refine hK _ _ _ ?_; clear hE hK K E
    refine AWP.seqRegD [] [] [b] mixed (by kernel_rfl) (by kernel_rfl) (fun K hK => .inl ?_) (by kernel_rfl); simp -implicitDefEqProofs only [go_sem, ↓reduceIte, Nat.reduceEqDiff, Nat.reduceAdd, Nat.reduceMul, Nat.reduceLT, Nat.reduceLeDiff, reduceCtorEq, Int.toNat_natCast, hb, ers_lit, hw1, hne, hne', hcj, show ¬ cap' = i + vs.length by omega]
    refine ⟨⟨by omega, by omega⟩, ⟨by omega, by omega⟩, ?_⟩
    have hsrc := srcA_row (h := upd h b (rowB 0 e2 (List.replicate k .junk))) (cap := cap - j) (off := j * 2) (m := es.length - j) j (by rw [upd_ne _ _ _ _ hne]; exact hb) ho (by omega) (.inl rfl)
    rw [List.take_of_length_le (by simp : (es.drop j).length ≤ es.length - j)] at hsrc
    refine BiD.of ?_
    refine BiK.copy (e := 33) (sz := 2) (m := es.length - j) (xs := (es.drop j).flatten.map .p) ty_slE_24 ty_tsz_33 (upd_same _ _ _) rfl hsrc (fun c hc => okEs_flat (ho.drop j) _ c (List.mem_of_mem_take hc)) (by simp only [List.length_append, List.length_map, hf2, List.length_replicate]; omega) ?_
    rw [show N - (i + vs.length) = es.length - j by omega, Nat.min_self, List.take_of_length_le (by rw [List.length_map, okEs_len (ho.drop j), hdl]; exact Nat.le_refl _), upd_upd, spl_els _ ho2 (ho.drop j) (by omega) 0 rfl, ho2t,
      show e2.drop (i + vs.length + (es.drop j).length) = [] from List.drop_of_length_le (by omega), List.append_nil, List.append_assoc]
    refine ⟨Sub.reupd (sub_ers _ b) (fun c e => ?_), ?_⟩
    · rw [ers_lit, if_pos rfl, upd_same] at e; injection e with e; subst e; exact ⟨rfl, rfl⟩
    generalize hE3 : es.take i ++ (vs ++ es.drop j) = e3 at hrl ⊢
    simp -implicitDefEqProofs only [go_sem, ↓reduceIte, Nat.reduceEqDiff, Nat.reduceAdd, Nat.reduceMul, Nat.reduceLT, Nat.reduceLeDiff, reduceCtorEq, Int.toNat_natCast]
    refine hK _ _ _ ?_; clear hK K
    refine AWP.seqReg (by kernel_rfl) (fun E K hE hK => ?_); simp -implicitDefEqProofs only [go_sem, ↓reduceIte, Nat.reduceEqDiff, Nat.reduceAdd, Nat.reduceMul, Nat.reduceLT, Nat.reduceLeDiff, reduceCtorEq, Int.toNat_natCast]; refine hK _ _ _ ?_; clear hE hK K E
    refine AWP.ret ?_
    simp -implicitDefEqProofs only [go_sem, ↓reduceIte, Nat.reduceEqDiff, Nat.reduceAdd, Nat.reduceMul, Nat.reduceLT, Nat.reduceLeDiff, reduceCtorEq, Int.toNat_natCast]
    refine Ends.move hn H hid hb (fun k hk _ => upd_ne _ _ _ _ (Nat.ne_of_lt hk)) (Nat.le_refl _) (upd_same _ _ _) rfl (lowCs_app (lowCs_p _ _) (lowCs_junk _ _)) (off := 0) (len := N) (cap := cap')
      (by rw [show Try.f29.results.toList = [.tmp 8] from rfl]; simp -implicitDefEqProofs only [go_sem, ↓reduceIte, Nat.reduceEqDiff, Nat.reduceAdd, Nat.reduceMul, Nat.reduceLT, Nat.reduceLeDiff, reduceCtorEq, Int.toNat_natCast]) ?_
    subst hE3
    exact ⟨ver + 1, cap', List.replicate k .junk, by omega, by rw [List.length_replicate]; omega, lowCs_junk _ _, by rw [hrl], rfl⟩
  refine AWP.ifF (by simp -implicitDefEqProofs only [go_sem, ↓reduceIte, Nat.reduceEqDiff, Nat.reduceAdd, Nat.reduceMul, Nat.reduceLT, Nat.reduceLeDiff, reduceCtorEq, Int.toNat_natCast, show ¬ (cap : Int) < (N : Int) by omega]) ?_
  refine AWP.skip ?_
  simp -implicitDefEqProofs only [go_sem, ↓reduceIte, Nat.reduceEqDiff, Nat.reduceAdd, Nat.reduceMul, Nat.reduceLT, Nat.reduceLeDiff, reduceCtorEq, Int.toNat_natCast]
  refine AWP.seqReg (by kernel_rfl) (fun E K hE hK => ?_); simp -implicitDefEqProofs only [go_sem, ↓reduceIte, Nat.reduceEqDiff, Nat.reduceAdd, Nat.reduceMul, Nat.reduceLT, Nat.reduceLeDiff, reduceCtorEq, Int.toNat_natCast, hb]
  refine ⟨⟨by omega, by omega⟩, ?_⟩
  refine hK _ _ _ ?_; clear hE hK K E
  refine AWP.seq ?_
  refine AWP.seqReg (by kernel_rfl) (fun E K hE hK => ?_); simp -implicitDefEqProofs only [go_sem, ↓reduceIte, Nat.reduceEqDiff, Nat.reduceAdd, Nat.reduceMul, Nat.reduceLT, Nat.reduceLeDiff, reduceCtorEq, Int.toNat_natCast, hw1]; refine hK _ _ _ ?_; clear hE hK K E
  by_cases hle : i + vs.length ≤ j
  · refine AWP.ifT (by simp -implicitDefEqProofs only [go_sem, ↓reduceIte, Nat.reduceEqDiff, Nat.reduceAdd, Nat.reduceMul, Nat.reduceLT, Nat.reduceLeDiff, reduceCtorEq, Int.toNat_natCast, show ((i + vs.length : Nat) : Int) ≤ (j : Int) by omega]) ?_
    refine AWP.seqReg (by kernel_rfl) (fun E K hE hK => ?_); simp -implicitDefEqProofs only [go_sem, ↓reduceIte, Nat.reduceEqDiff, Nat.reduceAdd, Nat.reduceMul, Nat.reduceLT, Nat.reduceLeDiff, reduceCtorEq, Int.toNat_natCast, hb, hci]
    refine ⟨⟨by omega, by omega⟩, ?_⟩
    refine BiR.of ?_
    refine BiK.copy (e := 33) (sz := 2) (m := vs.length) (xs := vs.flatten.map .p) ty_slE_24 ty_tsz_33 hb rfl (by simp [srcA]) (fun c hc => okEs_flat hv _ c (List.mem_of_mem_take hc)) (by simp only [List.length_append, List.length_map, hfl]; omega) ?_
    rw [Nat.min_eq_left (by omega), List.take_of_length_le (by rw [hVl]; exact Nat.le_refl _), spl_els _ ho hv (by omega) ver rfl]
    have h1l : (es.take i ++ (vs ++ es.drop (i + vs.length))).length = es.length := by rw [List.length_append, List.length_append, List.length_drop, htl]; omega
    have ho1 : okEs 2 (es.take i ++ (vs ++ es.drop (i + vs.length))) := (ho.take i).append (hv.append (ho.drop _))
    have hf1 := okEs_len ho1
    rw [h1l] at hf1
    have h1t : (es.take i ++ (vs ++ es.drop (i + vs.length))).take (i + vs.length) = es.take i ++ vs := by
      rw [← List.append_assoc, List.take_append_of_le_length (by rw [List.length_append, htl]; omega), List.take_of_length_le (by rw [List.length_append, htl]; omega)]
    have h1d : (es.take i ++ (vs ++ es.drop (i + vs.length))).drop j = es.drop j := by
      rw [← List.append_assoc, List.drop_append, List.drop_of_length_le (by rw [List.length_append, htl]; omega), List.nil_append, List.drop_drop, List.length_append, htl]
      congr 1; omega
    generalize es.take i ++ (vs ++ es.drop (i + vs.length)) = e1 at h1l ho1 hf1 h1t h1d ⊢
    simp -implicitDefEqProofs only [go_sem, ↓reduceIte, Nat.reduceEqDiff, Nat.reduceAdd, Nat.reduceMul, Nat.reduceLT, Nat.reduceLeDiff, reduceCtorEq, Int.toNat_natCast]
    refine hK _ _ _ ?_; clear hE hK K E
    have hcim : ¬ cap = i + vs.length := by omega
    refine AWP.seqRegD [] [] [id] mixed (by kernel_rfl) (by kernel_rfl) (fun K hK => .inl ?_) (by kernel_rfl); simp -implicitDefEqProofs only [go_sem, ↓reduceIte, Nat.reduceEqDiff, Nat.reduceAdd, Nat.reduceMul, Nat.reduceLT, Nat.reduceLeDiff, reduceCtorEq, Int.toNat_natCast, ers_lit, hw1, hcim, hcj]
    refine ⟨⟨by omega, by omega⟩, ⟨by omega, by omega⟩, ?_⟩
    have hsrc := srcA_row (h := upd h id (rowB ver e1 T)) (cap := cap - j) (off := j * 2) (m := es.length - j) j (upd_same _ _ _) ho1 (by omega) (.inl rfl)
    rw [h1d, List.take_of_length_le (by simp : (es.drop j).length ≤ es.length - j)] at hsrc
    refine BiD.of ?_
    refine BiK.copy (e := 33) (sz := 2) (m := es.length - j) (xs := (es.drop j).flatten.map .p) ty_slE_24 ty_tsz_33 (upd_same _ _ _) rfl hsrc (fun c hc => okEs_flat (ho.drop j) _ c (List.mem_of_mem_take hc)) (by simp only [List.length_append, List.length_map, hf1]; omega) ?_
    rw [show N - (i + vs.length) = es.length - j by omega, Nat.min_self, List.take_of_length_le (by rw [hBl]; exact Nat.le_refl _), upd_upd, spl_els _ ho1 (ho.drop j) (by omega) ver rfl, h1t]
    refine ⟨Sub.reupd (sub_ers _ id) (fun c e => ?_), ?_⟩
    · rw [ers_lit, if_pos rfl, upd_same] at e; injection e with e; subst e; exact ⟨rfl, rfl⟩
    have hrow : rowB ver (es.take i ++ vs ++ (es.drop j ++ e1.drop (i + vs.length + (es.drop j).length))) T = ⟨ver, (es.take i ++ (vs ++ es.drop j)).flatten.map .p ++ ((e1.drop (i + vs.length + (es.drop j).length)).flatten.map .p ++ T)⟩ := by
      rw [← rowB_app]; congr 1; simp only [List.append_assoc]
    rw [hrow]
    generalize hR1 : (e1.drop (i + vs.length + (es.drop j).length)).flatten.map Cell.p ++ T = T1
    have hT1l : T1.length = (es.length - N) * 2 + T.length := by
      rw [← hR1, List.length_append, List.length_map, okEs_len (ho1.drop _), List.length_drop, h1l, hdl, hN]
    have hT1low : lowCs 0 T1 = true := by rw [← hR1]; exact lowCs_app (lowCs_p _ _) hT
    have ho3 : okEs 2 (es.take i ++ (vs ++ es.drop j)) := (ho.take i).append (hv.append (ho.drop j))
    have hf3 := okEs_len ho3
    rw [hrl] at hf3
    generalize hE3 : es.take i ++ (vs ++ es.drop j) = e3 at hrl ho3 hf3 ⊢
    simp -implicitDefEqProofs only [go_sem, ↓reduceIte, Nat.reduceEqDiff, Nat.reduceAdd, Nat.reduceMul, Nat.reduceLT, Nat.reduceLeDiff, reduceCtorEq, Int.toNat_natCast]
    refine hK _ _ _ ?_; clear hK K
    refine AWP.seqReg (by kernel_rfl) (fun E K hE hK => ?_); simp -implicitDefEqProofs only [go_sem, ↓reduceIte, Nat.reduceEqDiff, Nat.reduceAdd, Nat.reduceMul, Nat.reduceLT, Nat.reduceLeDiff, reduceCtorEq, Int.toNat_natCast]
    refine ⟨⟨by omega, by omega⟩, ?_⟩
    obtain ⟨T2, hT2l, hT2low, hsp⟩ : ∃ T2 : List Cell, T2.length = T1.length ∧ lowCs 0 T2 = true ∧ spl (e3.flatten.map .p ++ T1) (if cap = N then 0 else N * 2) (repl (List.map (fun v => Cell.p (.v v)) [.int .i64 0, .int .i64 0]) (es.length - N)) = e3.flatten.map .p ++ T2 := by
      by_cases hnN : es.length = N
      · refine ⟨T1, rfl, hT1low, ?_⟩
        rw [hnN, Nat.sub_self]
        exact spl_nil _ _
      · rw [if_neg (by omega), spl_tail (by rw [List.length_map, hf3])]
        refine ⟨_, ?_, lowCs_app (lowCs_repl rfl _) (lowCs_drop hT1low _), rfl⟩
        simp only [List.length_append, List.length_drop, repl_length, List.length_map, List.length_cons, List.length_nil, hT1l]
        omega
    refine BiR.of ?_
    refine BiK.clear (e := 33) (sz := 2) (zs := [.int .i64 0, .int .i64 0]) ty_slE_24 ty_tzero_33 rfl (by decide) (upd_same _ _ _) rfl (by
      simp only [List.length_append, List.length_map, hf3, hT1l]
      split <;> omega) ?_
    simp only [hsp]
    rw [upd_upd]
    simp -implicitDefEqProofs only [go_sem, ↓reduceIte, Nat.reduceEqDiff, Nat.reduceAdd, Nat.reduceMul, Nat.reduceLT, Nat.reduceLeDiff, reduceCtorEq, Int.toNat_natCast]
    refine hK _ _ _ ?_; clear hE hK K E
    refine AWP.seqReg (by kernel_rfl) (fun E K hE hK => ?_); simp -implicitDefEqProofs only [go_sem, ↓reduceIte, Nat.reduceEqDiff, Nat.reduceAdd, Nat.reduceMul, Nat.reduceLT, Nat.reduceLeDiff, reduceCtorEq, Int.toNat_natCast]; refine hK _ _ _ ?_; clear hE hK K E
    refine AWP.ret ?_
    simp -implicitDefEqProofs only [go_sem, ↓reduceIte, Nat.reduceEqDiff, Nat.reduceAdd, Nat.reduceMul, Nat.reduceLT, Nat.reduceLeDiff, reduceCtorEq, Int.toNat_natCast]
    subst hE3
    refine Ends.turn hn H hid (fun _ _ => rfl) (lowCs_app (lowCs_p _ _) (lowCs_mono (Nat.zero_le _) hT2low)) (r0 := .one (.win id ver 0 N cap))
      (by rw [show Try.f29.results.toList = [.tmp 8] from rfl]; simp -implicitDefEqProofs only [go_sem, ↓reduceIte, Nat.reduceEqDiff, Nat.reduceAdd, Nat.reduceMul, Nat.reduceLT, Nat.reduceLeDiff, reduceCtorEq, Int.toNat_natCast]) (.one (.inl ⟨rfl, by simp [lowC, hid]⟩)) ⟨ver, cap, T2, by omega, by omega, hT2low, by rw [hrl], rfl⟩
  · refine AWP.ifF (by simp -implicitDefEqProofs only [go_sem, ↓reduceIte, Nat.reduceEqDiff, Nat.reduceAdd, Nat.reduceMul, Nat.reduceLT, Nat.reduceLeDiff, reduceCtorEq, Int.toNat_natCast, show ¬ ((i + vs.length : Nat) : Int) ≤ (j : Int) by omega]) ?_
    refine AWP.skip ?_
    simp -implicitDefEqProofs only [go_sem, ↓reduceIte, Nat.reduceEqDiff, Nat.reduceAdd, Nat.reduceMul, Nat.reduceLT, Nat.reduceLeDiff, reduceCtorEq, Int.toNat_natCast]
    refine AWP.seq ?_
    refine AWP.seqReg (by kernel_rfl) (fun E K hE hK => ?_); simp -implicitDefEqProofs only [go_sem, ↓reduceIte, Nat.reduceEqDiff, Nat.reduceAdd, Nat.reduceMul, Nat.reduceLT, Nat.reduceLeDiff, reduceCtorEq, Int.toNat_natCast, hb, hw1]
    have hcim : ¬ cap = i + vs.length := by omega
    refine ⟨⟨by omega, by omega⟩, ?_⟩
    refine CallR.ext (over_ws over_ext ty_slE_24 ty_tsz_33 rfl (by simp -implicitDefEqProofs only [go_sem, ↓reduceIte, Nat.reduceEqDiff, Nat.reduceAdd, Nat.reduceMul, Nat.reduceLT, Nat.reduceLeDiff, reduceCtorEq, Int.toNat_natCast, hb]) (fun blk e hh => ?_) ?_)
    · rw [hb] at e; injection e with e; subst e
      have h0 := congrArg List.length hh
      simp only [List.length_append, List.length_map, hfl, List.length_nil] at h0
      omega
    simp -implicitDefEqProofs only [go_sem, ↓reduceIte, Nat.reduceEqDiff, Nat.reduceAdd, Nat.reduceMul, Nat.reduceLT, Nat.reduceLeDiff, reduceCtorEq, Int.toNat_natCast]
    refine hK _ _ _ ?_; clear hE hK K E
    refine AWP.ifT (by simp -implicitDefEqProofs only [go_sem, ↓reduceIte, Nat.reduceEqDiff, Nat.reduceAdd, Nat.reduceMul, Nat.reduceLT, Nat.reduceLeDiff, reduceCtorEq, Int.toNat_natCast]) ?_
    refine AWP.seqRegD [] [] [id] mixed (by kernel_rfl) (by kernel_rfl) (fun K hK => .inl ?_) (by kernel_rfl); simp -implicitDefEqProofs only [go_sem, ↓reduceIte, Nat.reduceEqDiff, Nat.reduceAdd, Nat.reduceMul, Nat.reduceLT, Nat.reduceLeDiff, reduceCtorEq, Int.toNat_natCast, hb, ers_lit, hw1, hcim, hcj]
    refine ⟨⟨by omega, by omega⟩, ⟨by omega, by omega⟩, ?_⟩
    have hsrc := srcA_row (cap := cap - j) (off := j * 2) (m := es.length - j) j hb ho (by omega) (.inl rfl)
    rw [List.take_of_length_le (by simp : (es.drop j).length ≤ es.length - j)] at hsrc
    refine BiD.of ?_
    refine BiK.copy (e := 33) (sz := 2) (m := es.length - j) (xs := (es.drop j).flatten.map .p) ty_slE_24 ty_tsz_33 hb rfl hsrc (fun c hc => okEs_flat (ho.drop j) _ c (List.mem_of_mem_take hc)) (by simp only [List.length_append, List.length_map, hfl]; omega) ?_
    rw [show N - (i + vs.length) = es.length - j by omega, Nat.min_self, List.take_of_length_le (by rw [hBl]; exact Nat.le_refl _)]
    refine ⟨(sub_ers h id).upd (fun c e => ?_), ?_⟩
    · rw [ers_lit, if_pos rfl, hb] at e; injection e with e; subst e; exact ⟨rfl, rfl⟩
    have hsp1 : ∃ G : List Cell, G.length = (i + vs.length - j) * 2 ∧ spl (es.flatten.map .p ++ T) ((i + vs.length) * 2) ((es.drop j).flatten.map .p) = (es.take j).flatten.map .p ++ (G ++ ((es.drop j).flatten.map .p ++ T.drop ((i + vs.length - j) * 2))) := by
      have hs : es.flatten.map Cell.p ++ T = (es.take j).flatten.map .p ++ ((es.drop j).flatten.map .p ++ T) := by rw [← List.append_assoc, ← List.map_append, ← List.flatten_append, List.take_append_drop]
      rw [hs]
      exact spl_up _ (by rw [List.length_map, okEs_len (ho.take j), List.length_take]; omega) (by omega)
    obtain ⟨G, hG, hsp1⟩ := hsp1
    have hfin : spl (spl (es.flatten.map .p ++ T) ((i + vs.length) * 2) ((es.drop j).flatten.map .p)) (i * 2) (vs.flatten.map .p) = (es.take i ++ (vs ++ es.drop j)).flatten.map .p ++ T.drop ((i + vs.length - j) * 2) := by
      have hs : (es.take j).flatten.map Cell.p = (es.take i).flatten.map .p ++ ((es.take j).drop i).flatten.map .p := by
        rw [← List.map_append, ← List.flatten_append]
        have : es.take i = (es.take j).take i := by rw [List.take_take]; congr 1; omega
        rw [this, List.take_append_drop]
      have hml : (((es.take j).drop i).flatten.map Cell.p).length = (j - i) * 2 := by rw [List.length_map, okEs_len ((ho.take j).drop i), List.length_drop, List.length_take]; congr 1; omega
      rw [hsp1, hs, List.append_assoc, ← List.append_assoc (((es.take j).drop i).flatten.map Cell.p), spl_mid hAl.symm (by rw [hVl, List.length_append, hml, hG]; omega), List.flatten_append, List.map_append, List.flatten_append, List.map_append, List.append_assoc, List.append_assoc]
    have hc1l : (spl (es.flatten.map .p ++ T) ((i + vs.length) * 2) ((es.drop j).flatten.map .p)).length = es.length * 2 + T.length := by
      rw [spl_length (by rw [hBl, List.length_append, List.length_map, hfl]; omega), List.length_append, List.length_map, hfl]
    generalize spl (es.flatten.map .p ++ T) ((i + vs.length) * 2) ((es.drop j).flatten.map .p) = c1 at hfin hc1l ⊢
    simp -implicitDefEqProofs only [go_sem, ↓reduceIte, Nat.reduceEqDiff, Nat.reduceAdd, Nat.reduceMul, Nat.reduceLT, Nat.reduceLeDiff, reduceCtorEq, Int.toNat_natCast]
    refine hK _ _ _ ?_; clear hK K
    refine AWP.seqReg (by kernel_rfl) (fun E K hE hK => ?_); simp -implicitDefEqProofs only [go_sem, ↓reduceIte, Nat.reduceEqDiff, Nat.reduceAdd, Nat.reduceMul, Nat.reduceLT, Nat.reduceLeDiff, reduceCtorEq, Int.toNat_natCast, hci]
    refine ⟨⟨by omega, by omega⟩, ?_⟩
    refine BiR.of ?_
    refine BiK.copy (e := 33) (sz := 2) (m := vs.length) (xs := vs.flatten.map .p) ty_slE_24 ty_tsz_33 (upd_same _ _ _) rfl (by simp [srcA]) (fun c hc => okEs_flat hv _ c (List.mem_of_mem_take hc)) (by simp only [hc1l]; omega) ?_
    rw [Nat.min_eq_left (by omega), List.take_of_length_le (by rw [hVl]; exact Nat.le_refl _), upd_upd]
    simp only [hfin]
    generalize hE3 : es.take i ++ (vs ++ es.drop j) = e3 at hrl ⊢
    simp -implicitDefEqProofs only [go_sem, ↓reduceIte, Nat.reduceEqDiff, Nat.reduceAdd, Nat.reduceMul, Nat.reduceLT, Nat.reduceLeDiff, reduceCtorEq, Int.toNat_natCast]
    refine hK _ _ _ ?_; clear hE hK K E
    refine AWP.seqReg (by kernel_rfl) (fun E K hE hK => ?_); simp -implicitDefEqProofs only [go_sem, ↓reduceIte, Nat.reduceEqDiff, Nat.reduceAdd, Nat.reduceMul, Nat.reduceLT, Nat.reduceLeDiff, reduceCtorEq, Int.toNat_natCast]; refine hK _ _ _ ?_; clear hE hK K E
    refine AWP.ret ?_
    simp -implicitDefEqProofs only [go_sem, ↓reduceIte, Nat.reduceEqDiff, Nat.reduceAdd, Nat.reduceMul, Nat.reduceLT, Nat.reduceLeDiff, reduceCtorEq, Int.toNat_natCast]
    subst hE3
    refine Ends.turn hn H hid (fun _ _ => rfl) (lowCs_app (lowCs_p _ _) (lowCs_mono (Nat.zero_le _) (lowCs_drop hT _))) (r0 := .one (.win id ver 0 N cap))
      (by rw [show Try.f29.results.toList = [.tmp 8] from rfl]; simp -implicitDefEqProofs only [go_sem, ↓reduceIte, Nat.reduceEqDiff, Nat.reduceAdd, Nat.reduceMul, Nat.reduceLT, Nat.reduceLeDiff, reduceCtorEq, Int.toNat_natCast]) (.one (.inl ⟨rfl, by simp [lowC, hid]⟩)) ⟨ver, cap, _, by omega, by rw [List.length_drop]; omega, lowCs_drop hT _, by rw [hrl], rfl⟩

end Go.Proofs.Ytdannmfdenlikaa
