/-
  The abstract machine: rows: copied to, cleared, made, appended to in place; results that are the call's own rows.
-/
import Derived.Test.YtengjcdilnikhaaDoorAmLoop
import Derived.Laws.MakeOwn
namespace Go.Proofs.YtengjcdilnikhaaDoor.Am
set_option linter.unusedSimpArgs false
set_option linter.unusedVariables false
set_option linter.unnecessarySimpa false
open Go

theorem upd_self {h : Heap} {id : Nat} {b : Blk} (e : h id = some b) : upd h id b = h := by
  funext i
  by_cases hi : i = id
  · subst hi; rw [upd_same, e]
  · rw [upd_ne _ _ _ _ hi]

theorem upd_upd (h : Heap) (id : Nat) (x y : Blk) : upd (upd h id x) id y = upd h id y := by
  funext i
  by_cases hi : i = id
  · subst hi; rw [upd_same, upd_same]
  · rw [upd_ne _ _ _ _ hi, upd_ne _ _ _ _ hi, upd_ne _ _ _ _ hi]

theorem BiR.of {P : Program} {C : Ctx} {E : Exit → St → Prop} {bi : Builtin} {tys : List TypeId} {args : List AV} {dst : Option Tmp} {os : List Oper} {pre : List (Option Tmp)} {t : Nat → AV} {h : Heap} {n : Nat} {K : FinT}
    (k : BiK P C bi tys args h n fun v h' n' => evOps P C E os (pre ++ [dst]) (putT t dst v) h' n' K) : BiR P C E bi tys args dst os pre t h n K := k
theorem MkR.of {P : Program} {C : Ctx} {E : Exit → St → Prop} {ty : TypeId} {x y : AV} {dst : Option Tmp} {os : List Oper} {pre : List (Option Tmp)} {t : Nat → AV} {h : Heap} {n : Nat} {K : FinT}
    (k : MkK P C ty x y h n fun v h' n' => evOps P C E os (pre ++ [dst]) (putT t dst v) h' n' K) : MkR P C E ty x y dst os pre t h n K := k

theorem BiD.of {P : Program} {C : Ctx} {S : List Tmp} {V : List AV} {hS : Heap} {ops : Array Oper} {bi : Builtin} {tys : List TypeId} {args : List AV} {dst : Option Tmp} {os : List Oper} {t : Nat → AV} {h : Heap} {n : Nat} {K : FinT}
    (k : BiK P C bi tys args h n fun v h' n' => Sub hS h' ∧ evD P C S V hS ops os (putT t dst v) h' n' K) : BiD P C S V hS ops bi tys args dst os t h n K := k

theorem spl_nil (cells : List Cell) (off : Nat) : spl cells off [] = cells := by simp [spl]

attribute [go_sem] upd_upd
/-- cells are written into a block -/
theorem writeAt {P : Program} {C : Ctx} {ι : Nat → Nat} {t : Nat → AV} {h : Heap} {n : Nat} {a : Act} {w : World} (I : Inv C ι ⟨t, h, n⟩ a w) {id off : Nat} {blk : Blk} (hb : h id = some blk) {xs : List Cell} {V : List Value}
    (rep : Reps ι h (C.b + n) w xs V) (ok : ∀ u ∈ V, u.oneCell' = true) (hle : off + xs.length ≤ blk.cells.length) :
    ∃ w', (storeCells ⟨ι id, off, none⟩ V).run P w = .ok () w' ∧ Moves ι h (C.b + n) w ι (upd h id ⟨blk.ver, spl blk.cells off xs⟩) (C.b + n) w' ∧ Inv C ι ⟨t, upd h id ⟨blk.ver, spl blk.cells off xs⟩, n⟩ a w' := by
  by_cases hx : xs = []
  · subst hx
    have : V = [] := List.eq_nil_of_length_eq_zero rep.1
    subst this
    rw [spl_nil]
    have e : upd h id ⟨blk.ver, blk.cells⟩ = h := upd_self hb
    rw [e]
    exact ⟨w, rfl, Moves.refl _ _ _ _, I⟩
  · have hne : blk.cells ≠ [] := by
      intro hh; rw [hh] at hle; simp at hle
      exact hx hle.2
    obtain ⟨c, tyc, k1, k2, k3⟩ := I.heap.blk id blk hb hne
    have hl : V.length = xs.length := rep.1
    have hst := run_storeCells_at (P := P) (ι id) off tyc V 0 c w k1 (by rw [hl, k2]; omega) ok
    have r0 : Reps ι h (C.b + n) w blk.cells c.toList := ⟨by simpa using k2, fun j d u hd hu => k3 j d u hd (by simpa using hu)⟩
    have r1 := Reps.spl r0 rep hle
    obtain ⟨M, I'⟩ := I.write id blk hb hne blk.ver (Nat.le_refl _) (spl blk.cells off xs) (c.toList.take off ++ (V ++ c.toList.drop (off + V.length))).toArray
      (by simp [spl]; omega) (by have := r1.1; simpa using this) (fun j d u hd hu => r1.2 j d u hd (by simpa using hu))
    refine ⟨_, ?_, M, I'⟩
    rw [hst]
    simp

theorem reps_take {ι : Nat → Nat} {h : Heap} {bd : Nat} {w : World} {xs : List Cell} {V : List Value} (r : Reps ι h bd w xs V) (k : Nat) : Reps ι h bd w (xs.take k) (V.take k) := by
  refine ⟨by simp [r.1], fun i d u hd hu => ?_⟩
  rw [List.getElem?_take] at hd hu
  split at hd
  · rename_i hi; rw [if_pos hi] at hu; exact r.2 i d u hd hu
  · cases hd

/-- append within the room -/
theorem BiK.append_in {P : Program} {C : Ctx} {ty tx e : TypeId} {sz : Nat} {id ver off len cap m : Nat} {x : AV} {xs : List Cell} {h : Heap} {n : Nat} {K : KT} {blk : Blk}
    (ht : slE P ty = some e) (hs : tsz P e = some sz) (htx : isIntT P tx = false) (hb : h id = some blk) (hv : blk.ver = ver)
    (hsrc : srcA h sz x = some (m, xs)) (hok : ∀ c ∈ xs, okC h c = true) (hfit : len + m ≤ cap) (hc : off + cap * sz ≤ blk.cells.length)
    (k : K (.one (.win id ver off (len + m) cap)) (upd h id ⟨ver, spl blk.cells (off + len * sz) xs⟩) n) :
    BiK P C .append [ty, tx] [.one (.win id ver off len cap), x] h n K := by
  intro a w ι Vs I hVs tyR cs
  obtain ⟨hl, hVs⟩ := hVs
  match Vs, hl with
  | [X, Y], _ =>
    have rX := hVs 0 _ X rfl rfl
    have rY := hVs 1 _ Y rfl rfl
    have hlive : liveB h id ver = true := by unfold liveB; rw [hb]; simpa using hv
    obtain ⟨hlc, hX⟩ := win_inv rX hlive
    have hwh := win_hd rX
    obtain ⟨W, g1, g2, g3, g4⟩ := src_ok (P := P) I.heap rY hsrc
    obtain ⟨d, hd, hdk⟩ := isIntT_run htx
    have h1 := srcA_okC_one g3 hok
    have hu := run_underlying (P := P) (slE_run ht) w
    have hux := run_underlying (P := P) hd w
    have hnotint : (match d with | .int _ => true | _ => false) = false := by cases d <;> first | rfl | exact absurd rfl (hdk _)
    subst hv
    have hroom : (len + m) * sz ≤ cap * sz := Nat.mul_le_mul_right _ hfit
    rw [Nat.add_mul] at hroom
    obtain ⟨w', s1, M, I'⟩ := writeAt (P := P) I hb g3 h1 (off := off + len * sz) (by rw [g4]; omega)
    rcases hX with rfl | ⟨rfl, hl0, hc0⟩
    · refine ⟨.slice (some ⟨ι id, off, none⟩) (len + m) cap, w', _, _, n, ι, ?_, k, I', .one (.win hwh.1 (fun b e => by rw [upd_same] at e; injection e with e; subst e; exact Nat.le_refl _) (fun b e _ => ⟨hfit, .inl rfl⟩)), M⟩
      simp only [builtin, Builtin.append_, Sem.run_bind, Sem.run_pure, Result.andThen, hu, hux, tsz_run hs, hnotint, List.size_toArray, List.getElem?_toArray, List.getElem?_cons_zero, List.getElem?_cons_succ, g1, if_false, Bool.false_eq_true]
      rw [if_pos hfit]
      simp only [Sem.run_bind, g2, Result.andThen, Bool.not_false, if_true, add_none, s1, Sem.run_pure]
    · subst hl0; subst hc0
      have hm0 : m = 0 := by omega
      subst hm0
      have hx0 : xs = [] := List.eq_nil_of_length_eq_zero (by rw [g4]; simp)
      subst hx0
      rw [spl_nil] at k M I'
      have hW0 : W = [] := List.eq_nil_of_length_eq_zero g3.1
      subst hW0
      have : w' = w := by have := s1; simp only [storeCells, Sem.run_pure] at this; injection this with _ this; exact this.symm
      subst this
      refine ⟨.slice none 0 0, w', _, _, n, ι, ?_, k, I', .one (.win hwh.1 (fun b e => by rw [upd_same] at e; injection e with e; subst e; exact Nat.le_refl _) (fun b e _ => ⟨Nat.le_refl _, .inr ⟨rfl, rfl, rfl⟩⟩)), M⟩
      simp only [builtin, Builtin.append_, Sem.run_bind, Sem.run_pure, Result.andThen, hu, hux, tsz_run hs, hnotint, List.size_toArray, List.getElem?_toArray, List.getElem?_cons_zero, List.getElem?_cons_succ, g1, if_false, Bool.false_eq_true]
      rw [if_pos hfit]
      simp only [Sem.run_bind, g2, Result.andThen, Bool.not_false, if_true, Sem.run_pure]

/-- a copy -/
theorem BiK.copy {P : Program} {C : Ctx} {ty tx e : TypeId} {sz : Nat} {id ver off len cap m : Nat} {x : AV} {xs : List Cell} {h : Heap} {n : Nat} {K : KT} {blk : Blk}
    (ht : slE P ty = some e) (hs : tsz P e = some sz) (hb : h id = some blk) (hv : blk.ver = ver)
    (hsrc : srcA h sz x = some (m, xs)) (hok : ∀ c ∈ xs.take (min m len * sz), okC h c = true) (hc : off + len * sz ≤ blk.cells.length)
    (k : K (.one (.p (.v (.int .i64 ((min m len : Nat) : Int))))) (upd h id ⟨ver, spl blk.cells off (xs.take (min m len * sz))⟩) n) :
    BiK P C .copy [ty, tx] [.one (.win id ver off len cap), x] h n K := by
  intro a w ι Vs I hVs tyR cs
  obtain ⟨hl, hVs⟩ := hVs
  match Vs, hl with
  | [X, Y], _ =>
    have rX := hVs 0 _ X rfl rfl
    have rY := hVs 1 _ Y rfl rfl
    have hlive : liveB h id ver = true := by unfold liveB; rw [hb]; simpa using hv
    obtain ⟨hlc, hX⟩ := win_inv rX hlive
    obtain ⟨W, g1, g2, g3, g4⟩ := src_okk (P := P) I.heap rY hsrc
    have h1 := srcA_okC_one (reps_take g3 (min m len * sz)) hok
    have hu := run_underlying (P := P) (slE_run ht) w
    subst hv
    have hmin : min m len * sz ≤ len * sz := Nat.mul_le_mul_right _ (Nat.min_le_right _ _)
    obtain ⟨w', s1, M, I'⟩ := writeAt (P := P) I hb (reps_take g3 (min m len * sz)) h1 (off := off) (by rw [List.length_take]; omega)
    refine ⟨.int .i64 ((min m len : Nat) : Int), w', _, _, n, ι, ?_, k, I', rav_v _, M⟩
    rcases hX with rfl | ⟨rfl, hl0, hc0⟩
    · simp only [builtin, Builtin.copy_, Sem.run_bind, Sem.run_pure, Result.andThen, hu, tsz_run hs, List.getElem?_toArray, List.getElem?_cons_zero, List.getElem?_cons_succ, g1]
      have := g2 (min m len) (Nat.min_le_left _ _)
      simp only [Nat.min_def] at this s1 ⊢
      simp only [this, Sem.run_bind, Result.andThen, s1, Sem.run_pure, goInt]
    · subst hl0; subst hc0
      have hx0 : min m 0 = 0 := Nat.min_zero m
      rw [hx0] at s1 ⊢
      simp only [Nat.zero_mul, List.take_zero, storeCells, Sem.run_pure] at s1
      injection s1 with _ s1
      subst s1
      simp only [builtin, Builtin.copy_, Sem.run_bind, Sem.run_pure, Result.andThen, hu, tsz_run hs, List.getElem?_toArray, List.getElem?_cons_zero, List.getElem?_cons_succ, g1]
      have := g2 0 (Nat.zero_le _)
      simp only [Nat.min_def, Nat.le_zero_eq]
      have e0 : (if m = 0 then m else 0) = 0 := by split <;> simp_all
      rw [e0]
      simp only [this, Sem.run_bind, Result.andThen, Sem.run_pure, goInt]

/-- a row is cleared -/
theorem BiK.clear {P : Program} {C : Ctx} {ty e : TypeId} {sz : Nat} {zs : List Value} {id ver off len cap : Nat} {h : Heap} {n : Nat} {K : KT} {blk : Blk}
    (ht : slE P ty = some e) (hz : tzero P e = some zs) (hzs : zs.length = sz) (hz1 : zs.all (·.oneCell') = true) (hb : h id = some blk) (hv : blk.ver = ver) (hc : off + len * sz ≤ blk.cells.length)
    (k : K (.tup []) (upd h id ⟨ver, spl blk.cells off (repl (zs.map fun v => .p (.v v)) len)⟩) n) :
    BiK P C .clear [ty] [.one (.win id ver off len cap)] h n K := by
  intro a w ι Vs I hVs tyR cs
  obtain ⟨hl, hVs⟩ := hVs
  match Vs, hl with
  | [X], _ =>
    have rX := hVs 0 _ X rfl rfl
    have hlive : liveB h id ver = true := by unfold liveB; rw [hb]; simpa using hv
    obtain ⟨hlc, hX⟩ := win_inv rX hlive
    obtain ⟨i', z, hi', hiz, hzc⟩ := tzero_run hz
    have hu := run_underlying (P := P) (slE_run ht) w
    have hzr : (zeroValue e).run P w = .ok z w := by simp [zeroValue, typeInfo, hi', hiz]
    subst hv
    have hmem : ∀ (n : Nat), ∀ u ∈ repl zs n, u ∈ zs := by
      intro n
      induction n with
      | zero => intro u hu; simp [repl] at hu
      | succ n ih => intro u hu; simp only [repl, List.mem_append] at hu; exact hu.elim (fun h => h) (ih u)
    have hrepl : (Builtin.zeroCells z.cells len).toList = repl zs len := by
      have := range_repl zs len sz hzs
      have hzc' : z.cells = zs.toArray := by apply Array.ext'; simpa using hzc
      unfold Builtin.zeroCells
      rw [hzc']
      have e1 : zs.toArray.size = sz := by simpa using hzs
      rw [e1]
      rw [e1] at this
      rw [this]
    obtain ⟨w', s1, M, I'⟩ := writeAt (P := P) I hb (reps_repl (ι := ι) (h := h) (bd := C.b + n) (w := w) zs len) (fun u hu => List.all_eq_true.1 hz1 u (hmem _ u hu)) (off := off) (by rw [repl_length]; simpa [hzs] using hc)
    refine ⟨.tuple #[], w', _, _, n, ι, ?_, k, I', .tup [] rfl (fun _ _ _ e => by simp at e), M⟩
    have hnil : len = 0 → w' = w := by
      intro h0
      subst h0
      simp only [repl, storeCells, Sem.run_pure] at s1
      injection s1 with _ s1
      exact s1.symm
    rcases hX with rfl | ⟨rfl, hl0, hc0⟩
    · cases len with
      | zero => rw [hnil rfl]; simp only [builtin, Builtin.clear_, Sem.run_bind, Sem.run_pure, Result.andThen, hu, List.getElem?_toArray, List.getElem?_cons_zero, List.getElem?_cons_succ]
      | succ len => simp only [builtin, Builtin.clear_, Sem.run_bind, Sem.run_pure, Result.andThen, hu, List.getElem?_toArray, List.getElem?_cons_zero, List.getElem?_cons_succ, hzr, hrepl, s1]
    · rw [hnil hl0]; simp only [builtin, Builtin.clear_, Sem.run_bind, Sem.run_pure, Result.andThen, hu, List.getElem?_toArray, List.getElem?_cons_zero, List.getElem?_cons_succ]

/-- a made slice -/
theorem MkK.make {P : Program} {C : Ctx} {ty e : TypeId} {sz bytes : Nat} {zs : List Value} {kl kc : IntKind} {len cap : Nat} {h : Heap} {n : Nat} {K : KT}
    (ht : slE P ty = some e) (hs : tsz P e = some sz) (hz : tzero P e = some zs) (hzs : zs.length = sz) (hby : tby P e = some bytes) (hlc : len ≤ cap) (hb : bytes * cap ≤ 281474976710656) (h63 : cap ≤ 9223372036854775807)
    (k : K (.one (.win (C.b + n) 0 0 len cap)) (upd h (C.b + n) ⟨0, repl (zs.map fun v => .p (.v v)) cap⟩) (n + 1)) :
    MkK P C ty (.one (.p (.v (.int kl len)))) (.one (.p (.v (.int kc cap)))) h n K := by
  intro a w ι X Y I rX rY
  have hX := rav_v_inv rX
  have hY := rav_v_inv rY
  subst hX; subst hY
  obtain ⟨i, hi, his⟩ := tsz_info hs
  obtain ⟨i', z, hi', hiz, hzc⟩ := tzero_run hz
  have : i = i' := by rw [hi] at hi'; injection hi'
  subst this
  have hib : i.bytes = bytes := by unfold tby at hby; rw [hi] at hby; simpa using hby
  have hr := run_make (P := P) w ty e i z (slE_run ht) hi hiz kl kc len cap (by omega) (by omega) (by rw [hib, ← Int.natCast_mul]; omega) (by omega)
  simp only [Int.toNat_natCast] at hr
  have hzc' : z.cells = zs.toArray := by apply Array.ext'; simpa using hzc
  have hm : madeCells z.cells (cap * i.size) = (repl zs cap).toArray := by
    have := range_repl zs cap sz hzs
    unfold madeCells
    rw [hzc', his]
    exact this
  have hbn : h (C.b + n) = none := I.bound _ (Nat.le_refl _)
  obtain ⟨M, I'⟩ := I.place (C.b + n) (n + 1) (Nat.le_succ _) (by omega) 0 (fun b e => by have e' : h (C.b + n) = some b := e; rw [hbn] at e'; cases e') (fun _ => Nat.le_refl _)
    (repl (zs.map fun v => Cell.p (.v v)) cap) (repl zs cap).toArray e (by simp [repl_length]) (fun j d u hd hu => (reps_repl zs cap).2 j d u hd (by simpa using hu))
  rw [hm] at hr
  exact ⟨_, _, _, _, _, _, hr, k, I', rav_new_win w.heap.size len cap hlc, M⟩

/-- nil, as an own row of no cells -/
theorem Inv.virt {C : Ctx} {ι : Nat → Nat} {t : Nat → AV} {h : Heap} {n : Nat} {a : Act} {w : World} (I : Inv C ι ⟨t, h, n⟩ a w) :
    Moves ι h (C.b + n) w ι (upd h (C.b + n) ⟨0, []⟩) (C.b + (n + 1)) w ∧ Inv C ι ⟨t, upd h (C.b + n) ⟨0, []⟩, n + 1⟩ a w := by
  have hbn : ∀ i, C.b + n ≤ i → h i = none := I.bound
  have M : Moves ι h (C.b + n) w ι (upd h (C.b + n) ⟨0, []⟩) (C.b + (n + 1)) w := by
    refine ⟨by omega, fun b' hs _ i blk e ne => ?_, fun _ _ _ => rfl, fun i hi b' e => ?_⟩
    · by_cases hi : i = C.b + n
      · subst hi; rw [upd_same] at e; injection e with e; subst e; exact absurd rfl ne
      · rw [upd_ne _ _ _ _ hi] at e; exact hs i blk e ne
    · have hi' : i ≠ C.b + n := by omega
      rw [upd_ne _ _ _ _ hi'] at e
      exact ⟨b', e, Nat.le_refl _, fun _ => rfl⟩
  have hold : ∀ i b', upd h (C.b + n) ⟨0, []⟩ i = some b' → b'.cells ≠ [] → i ≠ C.b + n ∧ h i = some b' := by
    intro i b' e ne
    by_cases hi : i = C.b + n
    · subst hi; rw [upd_same] at e; injection e with e; subst e; exact absurd rfl ne
    · rw [upd_ne _ _ _ _ hi] at e; exact ⟨hi, e⟩
  refine ⟨M, ⟨fun i hi b' e => ?_, fun i hi b' e ne => I.fresh i hi b' (hold i b' e ne).2 ne, fun i hi => ?_, ⟨fun i b' e ne => ?_, fun i j bi bj hi hj ni nj => I.heap.inj i j bi bj (hold i bi hi ni).2 (hold j bj hj nj).2 ni nj⟩, fun t => (I.tmps t).move M, I.ntmps, I.defers, I.keeps⟩⟩
  · have hi' : i ≠ C.b + n := by omega
    have e' : upd h (C.b + n) ⟨0, []⟩ i = some b' := e
    rw [upd_ne _ _ _ _ hi'] at e'
    exact I.outer i hi b' e'
  · have hi2 : C.b + (n + 1) ≤ i := hi
    show upd h (C.b + n) ⟨0, []⟩ i = none
    rw [upd_ne _ _ _ _ (by omega)]
    exact hbn i (by omega)
  · obtain ⟨c, ty, h1, h2, h3⟩ := I.heap.blk i b' (hold i b' e ne).2 ne
    exact ⟨c, ty, h1, h2, fun j d u hd hu => (h3 j d u hd hu).move M⟩

theorem rav_virt {ι : Nat → Nat} {h : Heap} {b n : Nat} {w : World} : RAV ι (upd h (b + n) ⟨0, []⟩) (b + (n + 1)) w (.one (.win (b + n) 0 0 0 0)) (.slice none 0 0) :=
  .one (.win (by omega) (fun blk e => by rw [upd_same] at e; injection e with e; subst e; exact Nat.le_refl _) (fun _ _ _ => ⟨Nat.le_refl _, .inr ⟨rfl, rfl, rfl⟩⟩))

/-- a temporary that holds nil holds an own row of no cells -/
theorem AWP.virt {P : Program} {C : Ctx} {Q : Exit → St → Prop} {c : Code} {t : Nat → AV} {h : Heap} {n : Nat} (i : Nat) (e : t i = .one (.p (.v (.slice none 0 0))))
    (k : AWP P C c Q ⟨updT t i (.one (.win (C.b + n) 0 0 0 0)), upd h (C.b + n) ⟨0, []⟩, n + 1⟩) : AWP P C c Q ⟨t, h, n⟩ := by
  refine .weak (fun a w ι I => ⟨ι, ?_⟩) k
  obtain ⟨M, I'⟩ := I.virt
  refine ⟨I'.outer, I'.fresh, I'.bound, I'.heap, fun j => ?_, I'.ntmps, I'.defers, I'.keeps⟩
  show RAV ι (upd h (C.b + n) ⟨0, []⟩) (C.b + (n + 1)) w (updT t i (.one (.win (C.b + n) 0 0 0 0)) j) (a.tmps.getD j undef)
  by_cases hj : j = i
  · subst hj
    rw [updT_same]
    have hr : RAV ι h (C.b + n) w (t j) (a.tmps.getD j undef) := I.tmps j
    rw [e] at hr
    rw [rav_v_inv hr]
    exact rav_virt
  · rw [updT_ne _ _ _ _ hj]; exact I'.tmps j

theorem srcA_virt {h : Heap} {id sz m : Nat} {x : AV} {xs : List Cell} (hn : h id = none) (e : srcA h sz x = some (m, xs)) : srcA (upd h id ⟨0, []⟩) sz x = some (m, xs) := by
  unfold srcA at e ⊢
  split at e
  · exact e
  · rename_i id' ver off len cap
    split at e
    · rename_i b hb
      have : id' ≠ id := by intro hh; subst hh; rw [hn] at hb; cases hb
      simp only [upd_ne _ _ _ _ this, hb]
      exact e
    · cases e
  · exact e
  · exact e
  · cases e

/-- append to nil -/
theorem BiK.append_nil {P : Program} {C : Ctx} {ty tx e : TypeId} {sz bytes : Nat} {zs : List Value} {m : Nat} {x : AV} {xs : List Cell} {h : Heap} {n : Nat} {K : KT}
    (ht : slE P ty = some e) (hs : tsz P e = some sz) (hz : tzero P e = some zs) (hzs : zs.length = sz) (hby : tby P e = some bytes) (htx : isIntT P tx = false)
    (hsrc : srcA h sz x = some (m, xs)) (hok : ∀ c ∈ xs, okC (upd h (C.b + n) ⟨0, []⟩) c = true) (hroom : m * bytes ≤ 70368744177664) (hbytes : bytes ≤ 1000000) (hmax : m ≤ 4611686018427387904)
    (k : ∀ cap' r, m ≤ cap' → cap' * sz = m * sz + r → K (.one (.win (C.b + n) 1 0 m cap')) (upd h (C.b + n) ⟨1, xs ++ List.replicate r .junk⟩) (n + 1)) :
    BiK P C .append [ty, tx] [.one (.p (.v (.slice none 0 0))), x] h n K := by
  intro a w ι Vs I hVs tyR cs
  obtain ⟨M0, I0⟩ := I.virt
  have hbn : h (C.b + n) = none := I.bound _ (Nat.le_refl _)
  have hVs' : RAVs ι (upd h (C.b + n) ⟨0, []⟩) (C.b + (n + 1)) w [.one (.win (C.b + n) 0 0 0 0), x] Vs := by
    obtain ⟨hl, hv⟩ := hVs
    refine ⟨hl, fun i c u hc hu => ?_⟩
    match i with
    | 0 =>
      simp at hc
      subst hc
      have := hv 0 _ u rfl hu
      rw [rav_v_inv this]
      exact rav_virt
    | 1 =>
      simp at hc
      subst hc
      exact (hv 1 _ u rfl hu).move M0
    | i + 2 => simp at hc
  have own := BiK.append_own (P := P) (C := C) (ty := ty) (tx := tx) (e := e) (sz := sz) (bytes := bytes) (zs := zs) (id := C.b + n) (ver := 0) (len := 0) (cap := 0) (m := m) (x := x) (xs := xs) (h := upd h (C.b + n) ⟨0, []⟩) (n := n + 1) (K := K) (blk := ⟨0, []⟩)
    ht hs hz hzs hby htx (upd_same _ _ _) rfl (by simp) (srcA_virt hbn hsrc) hok (by simpa using hroom) hbytes (by simpa using hmax) (fun cap' r h1 h2 => by
      have := k cap' r (by simpa using h1) (by simpa using h2)
      have e1 : upd (upd h (C.b + n) ⟨0, []⟩) (C.b + n) ⟨0 + 1, List.take (0 * sz) ([] : List Cell) ++ (xs ++ List.replicate r .junk)⟩ = upd h (C.b + n) ⟨1, xs ++ List.replicate r .junk⟩ := by
        funext i
        by_cases hi : i = C.b + n
        · subst hi; rw [upd_same, upd_same]; simp
        · rw [upd_ne _ _ _ _ hi, upd_ne _ _ _ _ hi, upd_ne _ _ _ _ hi]
      rw [e1, Nat.zero_add, Nat.zero_add]
      exact this)
  obtain ⟨v, w', av, h', n', ι', h1, h2, h3, h4, h5⟩ := own a w ι Vs I0 hVs' tyR cs
  refine ⟨v, w', av, h', n', ι', h1, h2, h3, h4, ⟨Nat.le_trans M0.hbd h5.hbd, fun b hb hlt => h5.stab b (M0.stab b hb hlt) hlt, fun b hs hlt => h5.agree b (M0.stab b hs hlt) hlt, fun i hi b' e => ?_⟩⟩
  obtain ⟨b, hb, hle, hx⟩ := h5.blk i (by omega) b' e
  rw [upd_ne _ _ _ _ (by omega)] at hb
  exact ⟨b, hb, hle, hx⟩

end Go.Proofs.YtengjcdilnikhaaDoor.Am
