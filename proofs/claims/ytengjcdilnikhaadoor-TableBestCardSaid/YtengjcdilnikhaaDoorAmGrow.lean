/-
  The abstract machine: append of made elements beyond the room.
-/
import Derived.Test.YtengjcdilnikhaaDoorAmOver
namespace Go.Proofs.YtengjcdilnikhaaDoor.Am
set_option linter.unusedSimpArgs false
set_option linter.unusedVariables false
set_option linter.unnecessarySimpa false
open Go

/-- made elements appended, where there is no room for them -/
theorem BiK.append_mk {P : Program} {C : Ctx} {ty tx e : TypeId} {sz bytes : Nat} {zs : List Value} {id ver off len cap m : Nat} {k0 kx : IntKind} {xs : List Cell} {h : Heap} {n : Nat} {K : KT}
    (ht : slE P ty = some e) (hs : tsz P e = some sz) (hz : tzero P e = some zs) (hzs : zs.length = sz) (hby : tby P e = some bytes) (htx : intK P tx = some k0) (hlive : liveB h id ver = true)
    (hsr : srcA h sz (.one (.win id ver off len cap)) = some (len, xs)) (hgrow : cap < len + m) (hroom : (len + m) * bytes ≤ 70368744177664) (hbytes : bytes ≤ 1000000) (hmax : len + m ≤ 4611686018427387904)
    (k : ∀ cap' r, len + m ≤ cap' → cap' * sz = (len + m) * sz + r → K (.one (.win (C.b + n) 0 0 (len + m) cap')) (upd h (C.b + n) ⟨0, xs ++ (repl (zs.map fun v => .p (.v v)) m ++ List.replicate r .junk)⟩) (n + 1)) :
    BiK P C .append [ty, tx] [.one (.win id ver off len cap), .one (.p (.v (.int kx m)))] h n K := by
  intro a w ι Vs I hVs tyR cs
  obtain ⟨hl, hVs⟩ := hVs
  match Vs, hl with
  | [X, Y], _ =>
    have rX := hVs 0 _ X rfl rfl
    have rY := hVs 1 _ Y rfl rfl
    have hY := rav_v_inv rY
    subst hY
    obtain ⟨hlc, hX⟩ := win_inv rX hlive
    obtain ⟨i, hi, his⟩ := tsz_info hs
    obtain ⟨i', z, hi', hiz, hzc⟩ := tzero_run hz
    have : i = i' := by rw [hi] at hi'; injection hi'
    subst this
    have hib : i.bytes = bytes := by unfold tby at hby; rw [hi] at hby; simpa using hby
    have hu := run_underlying (P := P) (slE_run ht) w
    have hux := run_underlying (P := P) (intK_run htx) w
    have rX' : RAV ι h (C.b + n) w.drew (.one (.win id ver off len cap)) X := rX.move (Moves.world (w := w) (w' := w.drew) (fun _ _ _ => rfl))
    obtain ⟨O, _, o2, o3, o4⟩ := src_ok (P := P) (I.drew).heap rX' hsr
    have hXs : ∃ A, X = .slice A len cap := by rcases hX with hX | ⟨hX, h1, h2⟩ <;> exact ⟨_, by rw [hX]; try rw [h1, h2]⟩
    obtain ⟨A, rfl⟩ := hXs
    have hcap : ∃ nc, (choose (.appendCap (len + m) cap e)).run P w = .ok nc w.drew ∧ len + m ≤ nc := by
      refine ⟨(Question.appendCap (len + m) cap e).cut (w.tape w.drawn (.appendCap (len + m) cap e)), ?_, ?_⟩
      · rw [run_choose]
        rfl
      · simp only [Question.cut]; omega
    obtain ⟨nc, hch, hnc⟩ := hcap
    have hzr : (zeroValue e).run P w.drew = .ok z w.drew := by simp [zeroValue, typeInfo, hi, hiz]
    have hzc' : z.cells = zs.toArray := by apply Array.ext'; simpa using hzc
    have hzsz : z.cells.size = sz := by rw [hzc']; simpa using hzs
    have hzm : Builtin.zeroCells z.cells m = (repl zs m).toArray := by
      have := range_repl zs m sz hzs
      unfold Builtin.zeroCells
      rw [hzc']
      have e1 : zs.toArray.size = sz := by simpa using hzs
      rw [e1] at this ⊢
      exact this
    have hrl : (Builtin.zeroCells z.cells (nc - (len + m))).size = (nc - (len + m)) * sz := by simp [Builtin.zeroCells, hzsz]
    have hcapm : nc * sz = (len + m) * sz + (nc - (len + m)) * sz := by rw [← Nat.add_mul]; congr 1; omega
    have hk := k nc _ hnc hcapm
    have hl1 := o3.1
    have hbn : h (C.b + n) = none := I.bound _ (Nat.le_refl _)
    obtain ⟨M, I'⟩ := (I.drew).place (C.b + n) (n + 1) (Nat.le_succ _) (by omega) 0 (fun b e => by have e' : h (C.b + n) = some b := e; rw [hbn] at e'; cases e') (fun _ => Nat.le_refl _)
      (xs ++ (repl (zs.map fun v => Cell.p (.v v)) m ++ List.replicate ((nc - (len + m)) * sz) .junk)) (O.toArray ++ (repl zs m).toArray ++ Builtin.zeroCells z.cells (nc - (len + m))) e
      (by simp [hl1, hrl, repl_length]; omega) (fun j d u hd hu => by
        have hu' : (O ++ (repl zs m ++ (Builtin.zeroCells z.cells (nc - (len + m))).toList))[j]? = some u := by rw [← hu, ← Array.getElem?_toList]; simp
        rw [List.getElem?_append] at hd hu'
        rw [hl1] at hu'
        split at hd
        · rename_i hj
          rw [if_pos hj] at hu'
          exact o3.2 j d u hd hu'
        · rename_i hj
          rw [if_neg hj] at hu'
          rw [List.getElem?_append] at hd hu'
          rw [repl_map, List.length_map] at hd
          split at hd
          · rename_i hj2
            rw [if_pos hj2] at hu'
            exact (reps_vs (ι := ι) (h := h) (bd := C.b + n) (w := w.drew) (repl zs m)).2 _ d u hd hu'
          · have : d = .junk := (List.mem_replicate.1 (List.mem_of_getElem? hd)).2
            subst this
            exact .junk u)
    refine ⟨.slice (some ⟨w.drew.heap.size, 0, none⟩) (len + m) nc, _, _, _, _, _, ?_, hk, I', rav_new_win w.drew.heap.size (len + m) nc hnc, ⟨M.hbd, M.stab, M.agree, M.blk⟩⟩
    have h63 : ¬ (((len + m : Nat) : Int) > IntKind.i64.max ∧ (True ∨ i.bytes = 0)) := by rw [IntKind.max_i64]; omega
    have h48 : ¬ (Builtin.nextslicecap (len + m) cap * i.bytes > 2 ^ 48) := by
      have h1 := nextcap_le (len + m) cap (by omega)
      have h2 := Nat.mul_le_mul_right bytes h1
      rw [Nat.add_mul, Nat.mul_assoc] at h2
      rw [hib]
      omega
    have hti : (typeInfo e).run P w = .ok i w := by simp [typeInfo, hi]
    have hti' : (typeInfo e).run P w.drew = .ok i w.drew := by simp [typeInfo, hi]
    have hwr : IntKind.i64.wrap (m : Int) = m := wrap_i64 (by omega) (by omega)
    have hneg : ¬ ((m : Int) < 0) := by omega
    have hbig : ¬ ((m : Int) * i.bytes > 2 ^ 48) := by
      have : m * bytes ≤ (len + m) * bytes := Nat.mul_le_mul_right _ (by omega)
      rw [hib, ← Int.natCast_mul]
      omega
    have hfit : ¬ (len + m ≤ cap) := by omega
    simp only [builtin, Builtin.append_, Sem.run_bind, Sem.run_pure, Result.andThen, hu, hux, tsz_run hs, List.size_toArray, List.getElem?_toArray, List.getElem?_cons_zero, List.getElem?_cons_succ, if_true, asInt, asIntOf, hwr, hneg, if_false, hti, hbig, Int.toNat_natCast, hfit]
    rw [if_neg h63]
    simp only [Sem.run_bind, Result.andThen, hti]
    rw [if_neg h48]
    have hnew : (if m * sz = 0 then (pure #[] : Sem (Array Value)) else do pure (Builtin.zeroCells (← zeroValue e).cells m)).run P w.drew = .ok (repl zs m).toArray w.drew := by
      by_cases h0 : m * sz = 0
      · rw [if_pos h0]
        have : repl zs m = [] := List.eq_nil_of_length_eq_zero (by rw [repl_length, hzs]; exact h0)
        rw [this]; rfl
      · rw [if_neg h0]
        simp only [Sem.run_bind, hzr, Result.andThen, Sem.run_pure, hzm]
    simp only [Sem.run_bind, Result.andThen, hch, hti', run_askRoom, o2, hzr, Bool.not_true, Bool.false_eq_true, if_false, hnew, newRow, run_newObj, Sem.run_pure]
    rfl

/-- elements appended, where there is no room for them: a new row -/
theorem BiK.append_grow {P : Program} {C : Ctx} {ty tx e : TypeId} {sz bytes : Nat} {zs : List Value} {id ver off len cap m : Nat} {x : AV} {xs ys : List Cell} {h : Heap} {n : Nat} {K : KT}
    (ht : slE P ty = some e) (hs : tsz P e = some sz) (hz : tzero P e = some zs) (hzs : zs.length = sz) (hby : tby P e = some bytes) (htx : isIntT P tx = false) (hlive : liveB h id ver = true)
    (hsr : srcA h sz (.one (.win id ver off len cap)) = some (len, xs)) (hsrc : srcA h sz x = some (m, ys)) (hgrow : cap < len + m) (hroom : (len + m) * bytes ≤ 70368744177664) (hbytes : bytes ≤ 1000000) (hmax : len + m ≤ 4611686018427387904)
    (k : ∀ cap' r, len + m ≤ cap' → cap' * sz = (len + m) * sz + r → K (.one (.win (C.b + n) 0 0 (len + m) cap')) (upd h (C.b + n) ⟨0, xs ++ (ys ++ List.replicate r .junk)⟩) (n + 1)) :
    BiK P C .append [ty, tx] [.one (.win id ver off len cap), x] h n K := by
  intro a w ι Vs I hVs tyR cs
  obtain ⟨hl, hVs⟩ := hVs
  match Vs, hl with
  | [X, Y], _ =>
    have rX := hVs 0 _ X rfl rfl
    have rY := hVs 1 _ Y rfl rfl
    obtain ⟨hlc, hX⟩ := win_inv rX hlive
    obtain ⟨i, hi, his⟩ := tsz_info hs
    obtain ⟨i', z, hi', hiz, hzc⟩ := tzero_run hz
    have : i = i' := by rw [hi] at hi'; injection hi'
    subst this
    have hib : i.bytes = bytes := by unfold tby at hby; rw [hi] at hby; simpa using hby
    have hu := run_underlying (P := P) (slE_run ht) w
    obtain ⟨d, hd, hdk⟩ := isIntT_run htx
    have hux := run_underlying (P := P) hd w
    have hnotint : (match d with | .int _ => true | _ => false) = false := by cases d <;> first | rfl | exact absurd rfl (hdk _)
    obtain ⟨_, y1, _, _, _⟩ := src_ok (P := P) I.heap rY hsrc
    have rY' : RAV ι h (C.b + n) w.drew x Y := rY.move (Moves.world (w := w) (w' := w.drew) (fun _ _ _ => rfl))
    obtain ⟨W2, _, q2, q3, q4⟩ := src_ok (P := P) (I.drew).heap rY' hsrc
    have hl2 := q3.1
    have rX' : RAV ι h (C.b + n) w.drew (.one (.win id ver off len cap)) X := rX.move (Moves.world (w := w) (w' := w.drew) (fun _ _ _ => rfl))
    obtain ⟨O, _, o2, o3, o4⟩ := src_ok (P := P) (I.drew).heap rX' hsr
    have hXs : ∃ A, X = .slice A len cap := by rcases hX with hX | ⟨hX, h1, h2⟩ <;> exact ⟨_, by rw [hX]; try rw [h1, h2]⟩
    obtain ⟨A, rfl⟩ := hXs
    have hcap : ∃ nc, (choose (.appendCap (len + m) cap e)).run P w = .ok nc w.drew ∧ len + m ≤ nc := by
      refine ⟨(Question.appendCap (len + m) cap e).cut (w.tape w.drawn (.appendCap (len + m) cap e)), ?_, ?_⟩
      · rw [run_choose]
        rfl
      · simp only [Question.cut]; omega
    obtain ⟨nc, hch, hnc⟩ := hcap
    have hzr : (zeroValue e).run P w.drew = .ok z w.drew := by simp [zeroValue, typeInfo, hi, hiz]
    have hzc' : z.cells = zs.toArray := by apply Array.ext'; simpa using hzc
    have hzsz : z.cells.size = sz := by rw [hzc']; simpa using hzs
    have hrl : (Builtin.zeroCells z.cells (nc - (len + m))).size = (nc - (len + m)) * sz := by simp [Builtin.zeroCells, hzsz]
    have hcapm : nc * sz = (len + m) * sz + (nc - (len + m)) * sz := by rw [← Nat.add_mul]; congr 1; omega
    have hk := k nc _ hnc hcapm
    have hl1 := o3.1
    have hbn : h (C.b + n) = none := I.bound _ (Nat.le_refl _)
    obtain ⟨M, I'⟩ := (I.drew).place (C.b + n) (n + 1) (Nat.le_succ _) (by omega) 0 (fun b e => by have e' : h (C.b + n) = some b := e; rw [hbn] at e'; cases e') (fun _ => Nat.le_refl _)
      (xs ++ (ys ++ List.replicate ((nc - (len + m)) * sz) .junk)) (O.toArray ++ W2.toArray ++ Builtin.zeroCells z.cells (nc - (len + m))) e
      (by simp [hl1, hl2, hrl]; omega) (fun j d u hd hu => by
        have hu' : (O ++ (W2 ++ (Builtin.zeroCells z.cells (nc - (len + m))).toList))[j]? = some u := by rw [← hu, ← Array.getElem?_toList]; simp
        rw [List.getElem?_append] at hd hu'
        rw [hl1] at hu'
        split at hd
        · rename_i hj
          rw [if_pos hj] at hu'
          exact o3.2 j d u hd hu'
        · rename_i hj
          rw [if_neg hj] at hu'
          rw [List.getElem?_append] at hd hu'
          rw [hl2] at hu'
          split at hd
          · rename_i hj2
            rw [if_pos hj2] at hu'
            exact q3.2 _ d u hd hu'
          · have : d = .junk := (List.mem_replicate.1 (List.mem_of_getElem? hd)).2
            subst this
            exact .junk u)
    refine ⟨.slice (some ⟨w.drew.heap.size, 0, none⟩) (len + m) nc, _, _, _, _, _, ?_, hk, I', rav_new_win w.drew.heap.size (len + m) nc hnc, ⟨M.hbd, M.stab, M.agree, M.blk⟩⟩
    have h63 : ¬ (((len + m : Nat) : Int) > IntKind.i64.max ∧ (False ∨ i.bytes = 0)) := by rw [IntKind.max_i64]; omega
    have h48 : ¬ (Builtin.nextslicecap (len + m) cap * i.bytes > 2 ^ 48) := by
      have h1 := nextcap_le (len + m) cap (by omega)
      have h2 := Nat.mul_le_mul_right bytes h1
      rw [Nat.add_mul, Nat.mul_assoc] at h2
      rw [hib]
      omega
    have hti : (typeInfo e).run P w = .ok i w := by simp [typeInfo, hi]
    have hti' : (typeInfo e).run P w.drew = .ok i w.drew := by simp [typeInfo, hi]
    have hfit : ¬ (len + m ≤ cap) := by omega
    simp only [builtin, Builtin.append_, Sem.run_bind, Sem.run_pure, Result.andThen, hu, hux, tsz_run hs, hnotint, List.size_toArray, List.getElem?_toArray, List.getElem?_cons_zero, List.getElem?_cons_succ, y1, if_false, Bool.false_eq_true]
    rw [if_neg hfit]
    simp only [Sem.run_bind, Result.andThen, hti]
    rw [if_neg h63]
    simp only [Sem.run_bind, Result.andThen, hti]
    rw [if_neg h48]
    simp only [Sem.run_bind, Result.andThen, hch, hti', run_askRoom, o2, q2, hzr, Bool.not_false, if_true, newRow, run_newObj, Sem.run_pure]
    rfl

/-- elements appended to a row that has no room behind: a new row -/
theorem BiK.append_slc {P : Program} {C : Ctx} {ty tx e : TypeId} {sz bytes : Nat} {zs : List Value} {es : List (List PD)} {m : Nat} {x : AV} {ys : List Cell} {h : Heap} {n : Nat} {K : KT}
    (ht : slE P ty = some e) (hs : tsz P e = some sz) (hz : tzero P e = some zs) (hzs : zs.length = sz) (hby : tby P e = some bytes) (htx : isIntT P tx = false)
    (hsrc : srcA h sz x = some (m, ys)) (hgrow : 0 < m) (hroom : (es.length + m) * bytes ≤ 70368744177664) (hbytes : bytes ≤ 1000000) (hmax : es.length + m ≤ 4611686018427387904)
    (k : ∀ cap' r, es.length + m ≤ cap' → cap' * sz = (es.length + m) * sz + r → K (.one (.win (C.b + n) 0 0 (es.length + m) cap')) (upd h (C.b + n) ⟨0, es.flatten.map .p ++ (ys ++ List.replicate r .junk)⟩) (n + 1)) :
    BiK P C .append [ty, tx] [.one (.p (.slc sz es)), x] h n K := by
  intro a w ι Vs I hVs tyR cs
  obtain ⟨hl, hVs⟩ := hVs
  match Vs, hl with
  | [X, Y], _ =>
    have rX := hVs 0 _ X rfl rfl
    have rY := hVs 1 _ Y rfl rfl
    obtain ⟨A, rfl, rX1⟩ : ∃ A, X = .slice A es.length es.length ∧ RAV ι h (C.b + n) w (.one (.p (.sl sz es))) X := by
      cases rX with
      | one hc => cases hc with
        | p hd => cases hd with
          | slc h => exact ⟨_, rfl, .one (.p h)⟩
    have hsr : srcA h sz (.one (.p (.sl sz es))) = some (es.length, es.flatten.map .p) := by simp [srcA]
    generalize hlen : es.length = len at *
    generalize hxs : es.flatten.map Cell.p = xs at *
    obtain ⟨i, hi, his⟩ := tsz_info hs
    obtain ⟨i', z, hi', hiz, hzc⟩ := tzero_run hz
    have : i = i' := by rw [hi] at hi'; injection hi'
    subst this
    have hib : i.bytes = bytes := by unfold tby at hby; rw [hi] at hby; simpa using hby
    have hu := run_underlying (P := P) (slE_run ht) w
    obtain ⟨d, hd, hdk⟩ := isIntT_run htx
    have hux := run_underlying (P := P) hd w
    have hnotint : (match d with | .int _ => true | _ => false) = false := by cases d <;> first | rfl | exact absurd rfl (hdk _)
    obtain ⟨_, y1, _, _, _⟩ := src_ok (P := P) I.heap rY hsrc
    have rY' : RAV ι h (C.b + n) w.drew x Y := rY.move (Moves.world (w := w) (w' := w.drew) (fun _ _ _ => rfl))
    obtain ⟨W2, _, q2, q3, q4⟩ := src_ok (P := P) (I.drew).heap rY' hsrc
    have hl2 := q3.1
    have rX' : RAV ι h (C.b + n) w.drew (.one (.p (.sl sz es))) (.slice A len len) := rX1.move (Moves.world (w := w) (w' := w.drew) (fun _ _ _ => rfl))
    obtain ⟨O, _, o2, o3, o4⟩ := src_ok (P := P) (I.drew).heap rX' hsr
    have hcap : ∃ nc, (choose (.appendCap (len + m) len e)).run P w = .ok nc w.drew ∧ len + m ≤ nc := by
      refine ⟨(Question.appendCap (len + m) len e).cut (w.tape w.drawn (.appendCap (len + m) len e)), ?_, ?_⟩
      · rw [run_choose]
        rfl
      · simp only [Question.cut]; omega
    obtain ⟨nc, hch, hnc⟩ := hcap
    have hzr : (zeroValue e).run P w.drew = .ok z w.drew := by simp [zeroValue, typeInfo, hi, hiz]
    have hzc' : z.cells = zs.toArray := by apply Array.ext'; simpa using hzc
    have hzsz : z.cells.size = sz := by rw [hzc']; simpa using hzs
    have hrl : (Builtin.zeroCells z.cells (nc - (len + m))).size = (nc - (len + m)) * sz := by simp [Builtin.zeroCells, hzsz]
    have hcapm : nc * sz = (len + m) * sz + (nc - (len + m)) * sz := by rw [← Nat.add_mul]; congr 1; omega
    have hk := k nc _ hnc hcapm
    have hl1 := o3.1
    have hbn : h (C.b + n) = none := I.bound _ (Nat.le_refl _)
    obtain ⟨M, I'⟩ := (I.drew).place (C.b + n) (n + 1) (Nat.le_succ _) (by omega) 0 (fun b e => by have e' : h (C.b + n) = some b := e; rw [hbn] at e'; cases e') (fun _ => Nat.le_refl _)
      (xs ++ (ys ++ List.replicate ((nc - (len + m)) * sz) .junk)) (O.toArray ++ W2.toArray ++ Builtin.zeroCells z.cells (nc - (len + m))) e
      (by simp [hl1, hl2, hrl]; omega) (fun j d u hd hu => by
        have hu' : (O ++ (W2 ++ (Builtin.zeroCells z.cells (nc - (len + m))).toList))[j]? = some u := by rw [← hu, ← Array.getElem?_toList]; simp
        rw [List.getElem?_append] at hd hu'
        rw [hl1] at hu'
        split at hd
        · rename_i hj
          rw [if_pos hj] at hu'
          exact o3.2 j d u hd hu'
        · rename_i hj
          rw [if_neg hj] at hu'
          rw [List.getElem?_append] at hd hu'
          rw [hl2] at hu'
          split at hd
          · rename_i hj2
            rw [if_pos hj2] at hu'
            exact q3.2 _ d u hd hu'
          · have : d = .junk := (List.mem_replicate.1 (List.mem_of_getElem? hd)).2
            subst this
            exact .junk u)
    refine ⟨.slice (some ⟨w.drew.heap.size, 0, none⟩) (len + m) nc, _, _, _, _, _, ?_, hk, I', rav_new_win w.drew.heap.size (len + m) nc hnc, ⟨M.hbd, M.stab, M.agree, M.blk⟩⟩
    have h63 : ¬ (((len + m : Nat) : Int) > IntKind.i64.max ∧ (False ∨ i.bytes = 0)) := by rw [IntKind.max_i64]; omega
    have h48 : ¬ (Builtin.nextslicecap (len + m) len * i.bytes > 2 ^ 48) := by
      have h1 := nextcap_le (len + m) len (by omega)
      have h2 := Nat.mul_le_mul_right bytes h1
      rw [Nat.add_mul, Nat.mul_assoc] at h2
      rw [hib]
      omega
    have hti : (typeInfo e).run P w = .ok i w := by simp [typeInfo, hi]
    have hti' : (typeInfo e).run P w.drew = .ok i w.drew := by simp [typeInfo, hi]
    have hfit : ¬ (len + m ≤ len) := by omega
    simp only [builtin, Builtin.append_, Sem.run_bind, Sem.run_pure, Result.andThen, hu, hux, tsz_run hs, hnotint, List.size_toArray, List.getElem?_toArray, List.getElem?_cons_zero, List.getElem?_cons_succ, y1, if_false, Bool.false_eq_true]
    rw [if_neg hfit]
    simp only [Sem.run_bind, Result.andThen, hti]
    rw [if_neg h63]
    simp only [Sem.run_bind, Result.andThen, hti]
    rw [if_neg h48]
    simp only [Sem.run_bind, Result.andThen, hch, hti', run_askRoom, o2, q2, hzr, Bool.not_false, if_true, newRow, run_newObj, Sem.run_pure]
    rfl

end Go.Proofs.YtengjcdilnikhaaDoor.Am
