/-
  strings.SplitSeq at a slash, over the abstract machine.
-/
import Derived.Test.YtengjcdilnikhaaDoorNmLib
namespace Go.Proofs.YtengjcdilnikhaaDoor
set_option linter.unusedSimpArgs false
set_option linter.unusedVariables false
set_option linter.unnecessarySimpa false
open Go Am
set_option maxRecDepth 100000

abbrev sB (s : ByteArray) : Blk := ⟨0, [.p (.v (.string s))]⟩
abbrev iB (n : Int) : Blk := ⟨0, [.p (.v (.int .i64 n))]⟩

theorem splitSeq_ok (s sep : ByteArray) (n : Int) (h : Heap) (b : Nat) : ACalls Tryd.prog 128 [StrB s, StrB sep, IntV n] h b 3
    (fun r h' => r = .one (.clo (.func 140) [] [.ptr (b + 1) 0 0, .ptr b 0 0, .ptr (b + 2) 0 0]) ∧ h' = upd (upd (upd h b (sB s)) (b + 1) (sB sep)) (b + 2) (iB n)) := by
  refine ACalls.enter Tryd.func128 rfl (by simp [Tryd.ntmps128]) (fun ι w hn H => ?_)
  refine Rk ?_
  refine Rk ?_
  refine AWP.ret ?_
  refine Ends.all rfl (by rw [show Tryd.f128.results.toList = [.tmp 6] from rfl]; exact Ec) ⟨rfl, rfl⟩

theorem SplitSeq_ok (s sep : ByteArray) (h : Heap) (b : Nat) : ACalls Tryd.prog 107 [StrB s, StrB sep] h b 3
    (fun r h' => r = .one (.clo (.func 140) [] [.ptr (b + 1) 0 0, .ptr b 0 0, .ptr (b + 2) 0 0]) ∧ h' = upd (upd (upd h b (sB s)) (b + 1) (sB sep)) (b + 2) (iB 0)) := by
  refine ACalls.enter Tryd.func107 rfl (by simp [Tryd.ntmps107]) (fun ι w hn H => ?_)
  refine Rk ?_
  refine Rg (fun E K hE hK => ?_)
  refine Us (splitSeq_ok s sep 0 _ _) body_128 ?_
  refine hK _ _ _ ?_; clear hE hK K E
  refine AWP.ret ?_
  refine Ends.all rfl (by rw [show Tryd.f107.results.toList = [.tmp 4] from rfl]; exact Ec) ⟨rfl, rfl⟩

theorem indexByte_none {l : S} (h : (47 : UInt8) ∉ l) : Lib.indexByte l 47 = -1 := by
  induction l with
  | nil => rfl
  | cons c l ih =>
    simp only [List.mem_cons, not_or] at h
    unfold Lib.indexByte
    rw [if_neg (by simpa using fun e => h.1 e.symm), ih h.2]; rfl

theorem indexByte_some {p l : S} (h : (47 : UInt8) ∉ p) : Lib.indexByte (p ++ 47 :: l) 47 = p.length := by
  induction p with
  | nil => rfl
  | cons c p ih =>
    simp only [List.mem_cons, not_or] at h
    rw [List.cons_append]
    unfold Lib.indexByte
    rw [if_neg (by simpa using fun e => h.1 e.symm), ih h.2, if_neg (by simp)]
    simp

/-- the first part, and what is behind -/
theorem parts_cut (l : S) : ((47 : UInt8) ∉ l ∧ parts l = [l]) ∨ ∃ p r, l = p ++ 47 :: r ∧ (47 : UInt8) ∉ p ∧ parts l = p :: parts r := by
  induction l with
  | nil => exact .inl ⟨by simp, rfl⟩
  | cons c l ih =>
    by_cases hc : c = 47
    · subst hc; exact .inr ⟨[], l, rfl, by simp, parts_sl l⟩
    · rcases ih with ⟨h1, h2⟩ | ⟨p, r, rfl, h1, h2⟩
      · exact .inl ⟨by simp only [List.mem_cons, not_or]; exact ⟨fun e => hc e.symm, h1⟩, parts_cons hc h2⟩
      · exact .inr ⟨c :: p, r, rfl, by simp only [List.mem_cons, not_or]; exact ⟨fun e => hc e.symm, h1⟩, parts_cons hc h2⟩

/-- what stands in the iterator's own variables -/
structure SeqC (bp bs bq : Nat) (rest : S) (h : Heap) : Prop where
  p : h bp = some (sB ⟨#[47]⟩)
  s : h bs = some (sB (mkS rest))
  q : h bq = some (iB 0)

/-- at the head of the iterator's loop -/
def seqI (l bp bs bq b : Nat) (l0 : S) (J : List S → Heap → Prop) (d : List S) (rest : S) (s : St) : Prop :=
  s.n = 0 ∧ s.t 0 = .one (.p (.v (.func (.yield l) #[] #[]))) ∧ s.t 1 = .one (.ptr bp 0 0) ∧ s.t 2 = .one (.ptr bs 0 0) ∧ s.t 3 = .one (.ptr bq 0 0) ∧ parts l0 = d ++ parts rest ∧ J d s.h ∧ SeqC bp bs bq rest s.h ∧ rest.length ≤ 1000

theorem res0 (tmps : Array Value) (w : World) : (results Tryd.f140 tmps).run Tryd.prog w = .ok (.tuple #[]) w := by
  rw [results_eq, show Tryd.f140.results = #[] from rfl]
  simp

theorem seq_iter {J : List S → Heap → Prop} {JS : Heap → Prop} {b bp bs bq : Nat} {h0 : Heap} {ι : Nat → Nat} {w2 : World} {vs : List Value} {l : Nat} {r r' : Loop} {pp : Tmp} (l0 : S)
    (hsz : l0.length ≤ 1000) (hlt : bp < b ∧ bs < b ∧ bq < b) (hne : bp ≠ bs ∧ bq ≠ bs) (hbd : ∀ id, b ≤ id → h0 id = none) (H : HeapOK ι h0 b w2)
    (ha : RAVs ι h0 b w2 ([Cell.ptr bp 0 0, .ptr bs 0 0, .ptr bq 0 0].map .one) vs) (hl : w2.heap[l]? = some (.loop r)) (hpar : r.params = #[pp])
    (hJ0 : J [] h0) (hc0 : SeqC bp bs bq l0 h0) (hJu : ∀ d h x, J d h → J d (upd h bs x))
    (hround : ∀ d p more rest, parts l0 = d ++ p :: more → ∀ h1, J d h1 → SeqC bp bs bq rest h1 → ∀ ι1 w1, Post ι h0 b w2 0 ι1 h1 w1 → w1.heap[l]? = some (.loop r) →
      RoundIn Fence.wide 0 Tryd.prog l r.fn (r.tmps.setIfInBounds pp (.string (mkS p))) r.assign r.body w1 (fun e w' => ∃ v h' ι', e = .returned (.bool v) ∧ Post ι1 h1 b w1 0 ι' h' (w'.putObj l (.loop r)) ∧
        (v = true → (J (d ++ [p]) h' ∧ SeqC bp bs bq rest h') ∧ w'.heap[l]? = some (.loop r)) ∧ (v = false → JS h' ∧ w'.heap[l]? = some (.loop r')))) :
    CallsIn Fence.wide 0 Tryd.prog 140 (#[.func (.yield l) #[] #[]] ++ vs.toArray) w2 (fun e w3 => ∃ v, e = .returned v ∧
        ((∃ h' ι', J (parts l0) h' ∧ Post ι h0 b w2 0 ι' h' w3 ∧ w3.heap[l]? = some (.loop r)) ∨ (∃ h' ι', JS h' ∧ Post ι h0 b w2 0 ι' h' (w3.putObj l (.loop r)) ∧ w3.heap[l]? = some (.loop r')))) := by
  have ha' : RAVs ι h0 b w2 [.one (.p (.v (.func (.yield l) #[] #[]))), .one (.ptr bp 0 0), .one (.ptr bs 0 0), .one (.ptr bq 0 0)] (.func (.yield l) #[] #[] :: vs) := by
    refine ⟨by have := ha.1; simpa using this, fun i c u hc hu => ?_⟩
    match i with
    | 0 => simp at hc hu; subst hc; subst hu; exact rav_v _
    | i + 1 => exact ha.2 i c u (by simpa using hc) (by simpa using hu)
  have eargs : #[Value.func (.yield l) #[] #[]] ++ vs.toArray = (Value.func (.yield l) #[] #[] :: vs).toArray := by simp
  rw [eargs]
  refine callsIn_of_wp Tryd.func140 rfl trivial ?_
  generalize hE : (fun (a' : Act) (w' : World) => a'.defers = [] ∧ ∃ h' ι', JS h' ∧ Post ι h0 b w2 0 ι' h' (w'.putObj l (.loop r)) ∧ w'.heap[l]? = some (.loop r')) = E
  have I := Inv.args (N := Tryd.f140.ntmps) (x := ⟨[], none, E⟩) (by simp [Tryd.ntmps140]) hbd H ha'
  have hlow := H.lowCells
  -- left by the way out
  have out : ∀ a' w', E a' w' → bodyPost Tryd.prog Tryd.f140 (fun e w3 => ∃ v, e = .returned v ∧ ((∃ h' ι', J (parts l0) h' ∧ Post ι h0 b w2 0 ι' h' w3 ∧ w3.heap[l]? = some (.loop r)) ∨ (∃ h' ι', JS h' ∧ Post ι h0 b w2 0 ι' h' (w3.putObj l (.loop r)) ∧ w3.heap[l]? = some (.loop r')))) .ret a' w' := by
    rintro a' w' he
    rw [← hE] at he
    exact ⟨he.1, .tuple #[], res0 _ _, _, rfl, .inr he.2⟩
  have hx : ∀ d p more rest, parts l0 = d ++ p :: more → ∀ h1 t, J d h1 → SeqC bp bs bq rest h1 → Rnd Tryd.prog ⟨Tryd.f140.ntmps, b, ι, h0, w2, ⟨[], none, E⟩⟩ l r pp (mkS p) ⟨t, h1, 0⟩ (fun h' => J (d ++ [p]) h' ∧ SeqC bp bs bq rest h')
      (fun w' => ∃ h' ι', JS h' ∧ Post ι h0 b w2 0 ι' h' (w'.putObj l (.loop r)) ∧ w'.heap[l]? = some (.loop r')) :=
    fun d p more rest hp h1 t hJ hc => rnd_of H hl hpar (hround d p more rest hp h1 hJ hc)
  refine wpIn_seq (wpIn_mono ((show AWP Tryd.prog ⟨Tryd.f140.ntmps, b, ι, h0, w2, ⟨[], none, E⟩⟩ _ (fun e s => e = .normal ∧ seqI l bp bs bq b l0 J [] l0 s) _ from ?first) _ w2 ι I) ?_)
  case first =>
    refine Rkf @hc0.p ?_
    refine AWP.ifF (by exact Er) ?_
    refine AWP.skip ⟨rfl, ?_⟩
    exact ⟨rfl, rfl, rfl, rfl, rfl, rfl, hJ0, hc0, hsz⟩
  rintro e a1 w1 (⟨s1, ι1, ⟨rfl, hs1⟩, I1⟩ | ⟨rfl, he⟩)
  case inr => exact out _ _ he
  refine wpIn_seq (wpIn_mono ((show AWP Tryd.prog ⟨Tryd.f140.ntmps, b, ι, h0, w2, ⟨[], none, E⟩⟩ _ (fun e s => e = .normal ∧ ∃ d rest, seqI l bp bs bq b l0 J d rest s ∧ (47 : UInt8) ∉ rest) _ from ?loop) _ w1 ι1 I1) ?_)
  case loop =>
    refine AWP.block ?_
    refine AWP.loopK 0 (fun m s => ∃ d rest, m = rest.length ∧ seqI l bp bs bq b l0 J d rest s) l0.length hs1.1 ⟨[], l0, rfl, hs1⟩ ?_
    rintro m ⟨t, hh, n⟩ ⟨d, rest, rfl, hn0, e0, e1, e2, e3, hp, hJ, hc, hsz1⟩ hn
    simp only at hn0 e0 e1 e2 e3 hJ hc
    subst hn0
    refine AWP.block ?_
    refine Rgf (jn4 @e1 @e2 @hc.p @hc.s) (fun E K hE hK => ?_)
    refine Us (index_ok (mkS rest) _ _) body_139 ?_
    refine hK _ _ _ ?_; clear hE hK K E
    refine AWP.seq ?_
    refine Rk ?_
    have sl : (mkS rest).data.toList = rest := rfl
    rcases parts_cut rest with ⟨h1, h2⟩ | ⟨p, q, rfl, h1, h2⟩
    · refine AWP.ifT (by (first | (simp -implicitDefEqProofs only [go_sem, ↓reduceIte, Nat.reduceEqDiff, Nat.reduceAdd, Nat.reduceLT, Nat.reduceLeDiff, reduceCtorEq, Int.toNat_natCast, sl, indexByte_none h1]; first | done | rfl) | rfl)) ?_
      refine AWP.exit ?_
      refine Ev ?_
      exact ⟨d, rest, ⟨rfl, by exact Ecf @e0, by exact Ecf @e1, by exact Ecf @e2, by exact Ecf @e3, hp, hJ, hc, hsz1⟩, h1⟩
    · refine AWP.ifF (by simp -implicitDefEqProofs only [go_sem, ↓reduceIte, Nat.reduceEqDiff, Nat.reduceAdd, Nat.reduceLT, Nat.reduceLeDiff, reduceCtorEq, Int.toNat_natCast, sl, indexByte_some h1]; simp) ?_
      refine AWP.skip ?_
      refine Ev ?_
      have hpl : p.length ≤ 1000 := by rw [List.length_append] at hsz1; omega
      have hw0 : IntKind.i64.wrap ((p.length : Int) + 0) = p.length := by rw [wrap_i64 (by omega) (by omega)]; omega
      have hw1 : IntKind.i64.wrap ((p.length : Int) + 1) = ((p.length + 1 : Nat) : Int) := by rw [wrap_i64 (by omega) (by omega)]; omega
      have hx0 : (mkS (p ++ 47 :: q)).extract 0 p.length = mkS p := by rw [mkS_extract]; simp
      have hx1 : (mkS (p ++ 47 :: q)).extract (p.length + 1) (mkS (p ++ 47 :: q)).size = mkS q := by
        rw [mkS_extract, mkS_size]
        congr 1
        rw [show p ++ 47 :: q = (p ++ [47]) ++ q by simp, List.drop_append_of_le_length (by simp), List.drop_eq_nil_of_le (by simp), List.nil_append]
        exact List.take_of_length_le (by simp; omega)
      have hs47 : (((#[(47 : UInt8)] : Array UInt8).size : Nat) : Int) = 1 := rfl
      have hlt0 : ¬ ((mkS (p ++ 47 :: q)).size : Int) < p.length := by rw [mkS_size, List.length_append]; omega
      refine AWP.seqReg (by kernel_rfl) (fun E K hE hK => ?_); simp -implicitDefEqProofs only [go_sem, ↓reduceIte, Nat.reduceEqDiff, Nat.reduceAdd, Nat.reduceLT, Nat.reduceLeDiff, reduceCtorEq, Int.toNat_natCast, e0, e1, e2, e3, hc.p, hc.s, hc.q, sl, indexByte_some h1, hw0, hx0]
      refine ⟨rfl, ⟨by omega, by omega⟩, ?_⟩
      refine hK _ _ _ ?_; clear hE hK K E
      refine AWP.seq ?_
      have hp' : parts l0 = d ++ p :: parts q := by rw [hp, h2]
      refine AWP.seqYield (l := l) (r0 := r) (pp := pp) (p := mkS p) (HS := fun h' => J (d ++ [p]) h' ∧ SeqC bp bs bq (p ++ 47 :: q) h') (EX := fun w' => ∃ h' ι', JS h' ∧ Post ι h0 b w2 0 ι' h' (w'.putObj l (.loop r)) ∧ w'.heap[l]? = some (.loop r')) rfl rfl ?_ ?_ ?_ ?_ (fun t => hx d p (parts q) _ hp' hh t hJ hc) (fun a' w' hd hex => ?_) ?_
      · simp [Tryd.ntmps140]
      · decide
      · exact Ecf @e0
      · exact Ec
      · show E a' w'
        rw [← hE]
        exact ⟨hd, hex⟩
      rintro h' ⟨hJ', hc'⟩
      refine Ev ?_
      refine Raf (jn4 @e0 @e1 @e2 (jn7 @e3 @hc'.p @hc'.s @hc'.q @hs47 @hw1 @hx1)) (fun E K hE hK => ?_)
      refine ⟨rfl, ⟨by omega, by rw [mkS_size]; simp; omega⟩, ?_⟩
      refine hK _ _ _ ?_; clear hE hK K E
      refine ⟨rfl, _, ?_, d ++ [p], q, rfl, rfl, by exact Ecf @e0, by exact Ecf @e1, by exact Ecf @e2, by exact Ecf @e3, ?_, hJu _ _ _ hJ', ⟨?_, ?_, ?_⟩, ?_⟩
      · simp; omega
      · rw [hp']; simp
      · exact Ecf (jn2 (hne.1) @hc'.p)
      · exact Ec
      · exact Ecf (jn2 (hne.2) @hc'.q)
      · rw [List.length_append] at hsz1; simp at hsz1; omega
  rintro e a2 w2' (⟨s2, ι2, ⟨rfl, d, rest, hs2, hno⟩, I2⟩ | ⟨rfl, he⟩)
  case inr => exact out _ _ he
  obtain ⟨hn0, e0, e1, e2, e3, hp, hJ, hc, hsz1⟩ := hs2
  show (Code.wpIn Fence.wide 0 Tryd.prog _ _ a2 w2')
  refine wpIn_mono (yield_last (HS := fun h' => J (d ++ [rest]) h' ∧ SeqC bp bs bq rest h') (EX := fun w' => ∃ h' ι', JS h' ∧ Post ι h0 b w2 0 ι' h' (w'.putObj l (.loop r)) ∧ w'.heap[l]? = some (.loop r')) (x := mkS rest) (l := l) (r0 := r) (pp := pp) (C := ⟨Tryd.f140.ntmps, b, ι, h0, w2, ⟨[], none, E⟩⟩) rfl rfl hn0 ?_ ?_ ?_ ?_ ?_ I2) ?_
  · simp [Tryd.ntmps140]
  · decide
  · exact e0
  · exact Ecf (jn2 @e2 @hc.s)
  · intro t
    have := hx d rest [] rest (by rw [hp, parts_one hno]) s2.h t hJ hc
    exact this
  · rintro e a3 w3 ⟨rfl, hd, hh⟩
    refine ⟨hd, .tuple #[], res0 _ _, _, rfl, ?_⟩
    rcases hh with ⟨h', ι', ⟨hJ', _⟩, hpost⟩ | hex
    · refine .inl ⟨h', ι', ?_, hpost, ?_⟩
      · rw [hp, parts_one hno]; exact hJ'
      · rw [← hl]
        exact hpost.keeps.old l (stab_rec H hl (noCells_loop r)) (Array.getElem?_eq_some_iff.1 hl).1
    · exact .inr hex

end Go.Proofs.YtengjcdilnikhaaDoor
