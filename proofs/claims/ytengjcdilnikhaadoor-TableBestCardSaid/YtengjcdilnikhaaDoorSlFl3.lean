/-
  Go's package slices at one type of elements: Insert.
-/
import Derived.Test.YtengjcdilnikhaaDoorSlFl2
namespace Go.Proofs.YtengjcdilnikhaaDoor
set_option linter.unusedSimpArgs false
set_option linter.unusedVariables false
set_option linter.unnecessarySimpa false
open Go Am
set_option maxRecDepth 100000

theorem over_fl : isOver Tryd.prog 110 53 4 := fun args w =>
  run_callFunc_extern (fn := Tryd.f110) Tryd.func110 (by kernel_rfl) (by kernel_rfl) (by kernel_rfl) (e := Extern.SlicesOverlaps.overlaps #[53, 53] #[4]) (by kernel_rfl) args w

theorem insert_fl_ok (es vs : List (List PD)) (ho : okEs 6 es) (hv : okEs 6 vs) (h : Heap) (b id ver cap i : Nat) (T : List Cell) (hid : id < b) (hb : h id = some (rowB ver es T)) (hT : lowCs 0 T = true) (hcap : es.length ≤ cap)
    (hc : cap * 6 = es.length * 6 + T.length) (hi : i ≤ es.length) (hl : es.length ≤ 1000000000) (hl2 : vs.length ≤ 1000000000) :
    ACalls Tryd.prog 76 [.one (.win id ver 0 es.length cap), IntV i, .one (.p (.sl 6 vs))] h b 0 (rowR 6 (es.take i ++ (vs ++ es.drop i)) h id) := by
  refine ACalls.enter Tryd.func76 rfl (by simp [Tryd.ntmps76]) (fun ι w hn H => ?_)
  have hlow := H.lowCells
  have hfl := okEs_len ho
  have hfv := okEs_len hv
  have htl : (es.take i).length = i := by rw [List.length_take]; omega
  have hdl : (es.drop i).length = es.length - i := by simp
  have hrl : (es.take i ++ (vs ++ es.drop i)).length = es.length + vs.length := by rw [List.length_append, List.length_append, htl, hdl]; omega
  have hsplit : es.flatten.map Cell.p = (es.take i).flatten.map .p ++ (es.drop i).flatten.map .p := by rw [← List.map_append, ← List.flatten_append, List.take_append_drop]
  refine Rk ?_
  refine Rgf @hb (fun E K hE hK => ?_)
  refine ⟨⟨by omega, by omega⟩, ?_⟩
  refine hK _ _ _ ?_; clear hE hK K E
  refine Rk ?_
  refine AWP.seq ?_
  refine Rk ?_
  by_cases hv0 : (vs.length : Int) = 0
  · refine AWP.ifT (by exact Ecf @hv0) ?_
    refine Rk ?_
    refine AWP.ret ?_
    refine Ev ?_
    have : vs = [] := List.eq_nil_of_length_eq_zero (by omega)
    subst this
    refine Ends.turn hn H hid (fun k _ => by rw [upd_self hb]) (lowCs_app (lowCs_p _ _) (lowCs_mono (Nat.zero_le _) hT)) (r0 := .one (.win id ver 0 es.length cap))
      (by rw [show Tryd.f76.results.toList = [.tmp 6] from rfl]; exact Ec) (.one (.inl ⟨rfl, by simp [lowC, hid]⟩)) ?_
    rw [List.nil_append, List.take_append_drop]
    exact ⟨ver, cap, T, hcap, hc, hT, rfl, rfl⟩
  refine AWP.ifF (by exact Ecf @hv0) ?_
  refine AWP.skip ?_
  refine Ev ?_
  refine Rkf @hb ?_
  refine AWP.seq ?_
  refine Rk ?_
  by_cases hie : (i : Int) = es.length
  · refine AWP.ifT (by exact Ecf @hie) ?_
    refine Rgf @hb (fun E K hE hK => ?_)
    have hie' : i = es.length := by omega
    subst hie'
    have htk : (rowB ver es T).cells.take (es.length * 6) = es.flatten.map .p := by rw [List.take_left' (by rw [List.length_map, hfl])]
    refine BiR.of ?_
    refine BiK.append_own (e := 60) (sz := 6) (bytes := 56) (m := vs.length) (xs := vs.flatten.map .p) ty_slE_53 ty_tsz_60 ty_tzero_60 rfl ty_tby_60 ty_isIntT_53 hb rfl (by simp only [List.length_append, List.length_map, hfl]; omega) (by simp [srcA]) (okEs_flat hv _) (by omega) (by decide) (by omega) (fun cap' k h1 h2 => ?_)
    rw [htk]
    refine Ev ?_
    refine hK _ _ _ ?_; clear hE hK K E
    refine AWP.ret ?_
    refine Ev ?_
    refine Ends.turn hn H hid (fun k _ => rfl) (lowCs_app (lowCs_p _ _) (lowCs_app (lowCs_p _ _) (lowCs_junk _ _))) (r0 := .one (.win id (ver + 1) 0 (es.length + vs.length) cap'))
      (by rw [show Tryd.f76.results.toList = [.tmp 6] from rfl]; exact Ec) (.one (.inl ⟨rfl, by simp [lowC, hid]⟩)) ?_
    have he : es.take es.length ++ (vs ++ es.drop es.length) = es ++ vs := by simp
    rw [he]
    refine ⟨ver + 1, cap', List.replicate k .junk, by rw [List.length_append]; omega, by rw [List.length_append, List.length_replicate]; omega, lowCs_junk _ _, by rw [List.length_append], ?_⟩
    rw [rowB_app]
  refine AWP.ifF (by exact Ecf @hie) ?_
  refine AWP.skip ?_
  refine Ev ?_
  refine AWP.seq ?_
  refine Rkf @hb ?_
  have hw1 : IntKind.i64.wrap ((es.length : Int) + vs.length) = ((es.length + vs.length : Nat) : Int) := by rw [wrap_i64 (by omega) (by omega)]; omega
  by_cases hgr : cap < es.length + vs.length
  · refine AWP.ifT (by exact Ecf (jn2 @hw1 (show (cap : Int) < ((es.length + vs.length : Nat) : Int) by omega))) ?_
    have hw2 : IntKind.i64.wrap (((es.length + vs.length : Nat) : Int) - i) = ((es.length + vs.length - i : Nat) : Int) := by rw [wrap_i64 (by omega) (by omega)]; omega
    refine Rgf (jn3 @hb @hw1 @hw2) (fun E K hE hK => ?_)
    refine ⟨⟨by omega, by omega⟩, ?_⟩
    have hsr := srcA_row (cap := cap) (off := 0) (m := i) 0 hb ho (by omega) (.inl (by omega))
    rw [List.drop_zero] at hsr
    have hne : ¬ id = b := by omega
    have hne' : ¬ b = id := by omega
    refine BiR.of ?_
    refine BiK.append_mk (e := 60) (sz := 6) (bytes := 56) (zs := [.string ByteArray.empty, .float .f64 0, .int .u32 0, .int .i64 0, .int .i64 0, .int .i64 0]) ty_slE_53 ty_tsz_60 ty_tzero_60 rfl ty_tby_60 ty_intK_3 (by exact Ecf @hb) hsr (by omega) (by omega) (by decide) (by omega) (fun cap' k h1 h2 => ?_)
    have hsum : i + (es.length + vs.length - i) = es.length + vs.length := by omega
    rw [hsum] at h1 h2
    rw [rowB_zeros, hsum]
    have hz0 : okEs 6 (List.replicate (es.length + vs.length - i) (List.map PD.v [.string ByteArray.empty, .float .f64 0, .int .u32 0, .int .i64 0, .int .i64 0, .int .i64 0])) := okEs_replicate rfl (by decide) _
    have hoz : okEs 6 (es.take i ++ List.replicate (es.length + vs.length - i) (List.map PD.v [.string ByteArray.empty, .float .f64 0, .int .u32 0, .int .i64 0, .int .i64 0, .int .i64 0])) := (ho.take i).append hz0
    have hozl : (es.take i ++ List.replicate (es.length + vs.length - i) (List.map PD.v [.string ByteArray.empty, .float .f64 0, .int .u32 0, .int .i64 0, .int .i64 0, .int .i64 0])).length = es.length + vs.length := by rw [List.length_append, htl, List.length_replicate]; omega
    have hoz1 : (es.take i ++ List.replicate (es.length + vs.length - i) (List.map PD.v [.string ByteArray.empty, .float .f64 0, .int .u32 0, .int .i64 0, .int .i64 0, .int .i64 0])).take i = es.take i := by rw [List.take_append_of_le_length (by omega), List.take_of_length_le (by omega)]
    have hfz := okEs_len hoz
    rw [hozl] at hfz
    generalize es.take i ++ List.replicate (es.length + vs.length - i) (List.map PD.v [.string ByteArray.empty, .float .f64 0, .int .u32 0, .int .i64 0, .int .i64 0, .int .i64 0]) = e1 at hoz hozl hfz hoz1 ⊢
    refine Ev ?_
    refine hK _ _ _ ?_; clear hE hK K E
    refine Rgf (show ¬ cap' = i by omega) (fun E K hE hK => ?_)
    refine ⟨⟨by omega, by omega⟩, ?_⟩
    refine BiR.of ?_
    refine BiK.copy (e := 60) (sz := 6) (m := vs.length) (xs := vs.flatten.map .p) ty_slE_53 ty_tsz_60 (upd_same _ _ _) rfl (by simp [srcA]) (fun c hc => okEs_flat hv _ c (List.mem_of_mem_take hc)) (by simp only [List.length_append, List.length_map, hfz, List.length_replicate]; omega) ?_
    rw [Nat.min_eq_left (by omega), List.take_of_length_le (by rw [List.length_map, hfv]; exact Nat.le_refl _), spl_els _ hoz hv (by omega) 0 rfl, hoz1]
    have hd2 : (es.take i ++ (vs ++ e1.drop (i + vs.length))).length = es.length + vs.length := by rw [List.length_append, List.length_append, List.length_drop, htl, hozl]; omega
    have ho2 : okEs 6 (es.take i ++ (vs ++ e1.drop (i + vs.length))) := (ho.take i).append (hv.append (hoz.drop _))
    have ho2t : (es.take i ++ (vs ++ e1.drop (i + vs.length))).take (i + vs.length) = es.take i ++ vs := by
      rw [← List.append_assoc, List.take_append_of_le_length (by rw [List.length_append, htl]; omega), List.take_of_length_le (by rw [List.length_append, htl]; omega)]
    have hf2 := okEs_len ho2
    rw [hd2] at hf2
    generalize es.take i ++ (vs ++ e1.drop (i + vs.length)) = e2 at hd2 ho2 ho2t hf2 ⊢
    refine Ev ?_
    refine hK _ _ _ ?_; clear hE hK K E
    have hw3 : IntKind.i64.wrap ((i : Int) + vs.length) = ((i + vs.length : Nat) : Int) := by rw [wrap_i64 (by omega) (by omega)]; omega
    refine AWP.seqRegD [] [] [b] mixed (by kernel_rfl) (by kernel_rfl) (fun K hK => .inl ?_) (by kernel_rfl); simp -implicitDefEqProofs only [go_sem, ↓reduceIte, Nat.reduceEqDiff, Nat.reduceAdd, Nat.reduceLT, Nat.reduceLeDiff, reduceCtorEq, Int.toNat_natCast, hb, ers_lit, hw3, hne, hne', show ¬ cap' = i + vs.length by omega]
    refine ⟨⟨by omega, by omega⟩, ⟨by omega, by omega⟩, ?_⟩
    have hsrc := srcA_row (h := upd h b (rowB 0 e2 (List.replicate k .junk))) (cap := cap - i) (off := if cap = i then 0 else i * 6) (m := es.length - i) i (by rw [upd_ne _ _ _ _ hne]; exact hb) ho (by omega) (by
      by_cases hcj : cap = i
      · rw [if_pos hcj]; exact .inr ⟨by omega, rfl⟩
      · rw [if_neg hcj]; exact .inl rfl)
    rw [List.take_of_length_le (by simp : (es.drop i).length ≤ es.length - i)] at hsrc
    refine BiD.of ?_
    refine BiK.copy (e := 60) (sz := 6) (m := es.length - i) (xs := (es.drop i).flatten.map .p) ty_slE_53 ty_tsz_60 (upd_same _ _ _) rfl hsrc (fun c hc => okEs_flat (ho.drop i) _ c (List.mem_of_mem_take hc)) (by simp only [List.length_append, List.length_map, hf2, List.length_replicate]; omega) ?_
    rw [show es.length + vs.length - (i + vs.length) = es.length - i by omega, Nat.min_self, List.take_of_length_le (by rw [List.length_map, okEs_len (ho.drop i), hdl]; exact Nat.le_refl _), upd_upd, spl_els _ ho2 (ho.drop i) (by omega) 0 rfl, ho2t,
      show e2.drop (i + vs.length + (es.drop i).length) = [] from List.drop_of_length_le (by omega), List.append_nil, List.append_assoc]
    refine ⟨Sub.reupd (sub_ers _ b) (fun c e => ?_), ?_⟩
    · rw [ers_lit, if_pos rfl, upd_same] at e; injection e with e; subst e; exact ⟨rfl, rfl⟩
    generalize hE3 : es.take i ++ (vs ++ es.drop i) = e3 at hrl ⊢
    refine Ev ?_
    refine hK _ _ _ ?_; clear hK K
    refine Rk ?_
    refine AWP.ret ?_
    refine Ev ?_
    refine Ends.move hn H hid hb (fun k hk _ => upd_ne _ _ _ _ (Nat.ne_of_lt hk)) (Nat.le_refl _) (upd_same _ _ _) rfl (lowCs_app (lowCs_p _ _) (lowCs_junk _ _)) (off := 0) (len := es.length + vs.length) (cap := cap')
      (by rw [show Tryd.f76.results.toList = [.tmp 6] from rfl]; exact Ec) ?_
    subst hE3
    exact ⟨ver + 1, cap', List.replicate k .junk, by omega, by rw [List.length_replicate]; omega, lowCs_junk _ _, by rw [hrl], rfl⟩
  · refine AWP.ifF (by exact Ecf (jn2 @hw1 (show ¬ (cap : Int) < ((es.length + vs.length : Nat) : Int) by omega))) ?_
    refine AWP.skip ?_
    refine Ev ?_
    refine Rgf (jn2 @hb @hw1) (fun E K hE hK => ?_)
    refine ⟨⟨by omega, by omega⟩, ?_⟩
    refine hK _ _ _ ?_; clear hE hK K E
    have hw3 : IntKind.i64.wrap ((i : Int) + vs.length) = ((i + vs.length : Nat) : Int) := by rw [wrap_i64 (by omega) (by omega)]; omega
    refine AWP.seq ?_
    refine Rgf (jn2 @hb @hw3) (fun E K hE hK => ?_)
    refine ⟨⟨by omega, by omega⟩, ?_⟩
    refine CallR.ext (over_sw over_fl ty_slE_53 ty_tsz_60 rfl (by exact Ecf @hb) (fun blk e hh => ?_) ?_)
    · rw [hb] at e; injection e with e; subst e
      have h0 := congrArg List.length hh
      simp only [List.length_append, List.length_map, hfl, List.length_nil] at h0
      omega
    refine Ev ?_
    refine hK _ _ _ ?_; clear hE hK K E
    refine AWP.ifT (by exact Ec) ?_
    have hcim : ¬ cap = i + vs.length := by omega
    have hci : ¬ cap = i := by omega
    refine AWP.seqRegD [] [] [id] mixed (by kernel_rfl) (by kernel_rfl) (fun K hK => .inl ?_) (by kernel_rfl); simp -implicitDefEqProofs only [go_sem, ↓reduceIte, Nat.reduceEqDiff, Nat.reduceAdd, Nat.reduceLT, Nat.reduceLeDiff, reduceCtorEq, Int.toNat_natCast, hb, ers_lit, hw3, hcim, hci]
    refine ⟨⟨by omega, by omega⟩, ⟨by omega, by omega⟩, ?_⟩
    obtain ⟨xs, hsrc, hxs⟩ := srcA_room (cap := cap - i) (off := i * 6) (m := es.length + vs.length - i) i hb ho (by omega) rfl (by omega) (by omega)
    have hmin : min (es.length + vs.length - i) (es.length + vs.length - (i + vs.length)) = es.length - i := by omega
    refine BiD.of ?_
    refine BiK.copy (e := 60) (sz := 6) ty_slE_53 ty_tsz_60 hb rfl hsrc (by rw [hmin, hxs]; exact okEs_flat (ho.drop i) _) (by simp only [List.length_append, List.length_map, hfl]; omega) ?_
    rw [hmin, hxs]
    refine ⟨(sub_ers h id).upd (fun c e => ?_), ?_⟩
    · rw [ers_lit, if_pos rfl, hb] at e; injection e with e; subst e; exact ⟨rfl, rfl⟩
    have hBl : ((es.drop i).flatten.map Cell.p).length = (es.length - i) * 6 := by rw [List.length_map, okEs_len (ho.drop i), hdl]
    have hVl : (vs.flatten.map Cell.p).length = vs.length * 6 := by rw [List.length_map, hfv]
    have hAl : ((es.take i).flatten.map Cell.p).length = i * 6 := by rw [List.length_map, okEs_len (ho.take i), htl]
    have hfin : spl (spl (es.flatten.map .p ++ T) ((i + vs.length) * 6) ((es.drop i).flatten.map .p)) (i * 6) (vs.flatten.map .p) = (es.take i ++ (vs ++ es.drop i)).flatten.map .p ++ T.drop (vs.length * 6) := by
      rw [hsplit, List.append_assoc, spl_ins hAl.symm (by rw [hAl, hVl]; omega) (by rw [hVl]; omega), hVl, List.flatten_append, List.map_append, List.flatten_append, List.map_append, List.append_assoc, List.append_assoc]
    have hc1l : (spl (es.flatten.map .p ++ T) ((i + vs.length) * 6) ((es.drop i).flatten.map .p)).length = es.length * 6 + T.length := by
      rw [spl_length (by rw [hBl, List.length_append, List.length_map, hfl]; omega), List.length_append, List.length_map, hfl]
    generalize spl (es.flatten.map .p ++ T) ((i + vs.length) * 6) ((es.drop i).flatten.map .p) = c1 at hfin hc1l ⊢
    refine Ev ?_
    refine hK _ _ _ ?_; clear hK K
    refine Rgf @hci (fun E K hE hK => ?_)
    refine ⟨⟨by omega, by omega⟩, ?_⟩
    refine BiR.of ?_
    refine BiK.copy (e := 60) (sz := 6) (m := vs.length) (xs := vs.flatten.map .p) ty_slE_53 ty_tsz_60 (upd_same _ _ _) rfl (by simp [srcA]) (fun c hc => okEs_flat hv _ c (List.mem_of_mem_take hc)) (by simp only [hc1l]; omega) ?_
    rw [Nat.min_eq_left (by omega), List.take_of_length_le (by rw [hVl]; exact Nat.le_refl _), upd_upd]
    simp only [hfin]
    generalize hE3 : es.take i ++ (vs ++ es.drop i) = e3 at hrl ⊢
    refine Ev ?_
    refine hK _ _ _ ?_; clear hE hK K E
    refine Rk ?_
    refine AWP.ret ?_
    refine Ev ?_
    refine Ends.turn hn H hid (fun _ _ => rfl) (lowCs_app (lowCs_p _ _) (lowCs_mono (Nat.zero_le _) (lowCs_drop hT _))) (r0 := .one (.win id ver 0 (es.length + vs.length) cap))
      (by rw [show Tryd.f76.results.toList = [.tmp 6] from rfl]; exact Ec) (.one (.inl ⟨rfl, by simp [lowC, hid]⟩)) ?_
    subst hE3
    exact ⟨ver, cap, T.drop (vs.length * 6), by omega, by rw [List.length_drop]; omega, lowCs_drop hT _, by rw [hrl], rfl⟩

end Go.Proofs.YtengjcdilnikhaaDoor
