/-
  Octets as values; an own row of octets; a nil slice handed in as an own row.
-/
import Derived.Test.YthnhpbihgalgeaaDoorWiPure
import Derived.Test.YthnhpbihgalgeaaDoorTbW6
namespace Go.Proofs.YthnhpbihgalgeaaDoor
set_option linter.unusedSimpArgs false
set_option linter.unusedVariables false
set_option linter.unnecessarySimpa false
open Go Am
set_option maxRecDepth 100000

abbrev encO (c : UInt8) : List PD := [.v (.int .u8 c.toNat)]
abbrev OctV (s : S) : AV := .one (.p (.sl 1 (s.map encO)))
abbrev U64V (n : Int) : AV := .one (.p (.v (.int .u64 n)))

theorem okEs_oct (l : S) : okEs 1 (l.map encO) := fun e he => by
  obtain ⟨x, _, rfl⟩ := List.mem_map.1 he
  refine ⟨rfl, fun d hd => ?_⟩
  simp at hd
  subst hd; rfl
theorem octE_map : ∀ l : S, octE (l.map encO) = some l
  | [] => rfl
  | c :: l => by
    have h1 : octV (.v (.int .u8 (c.toNat : Int))) = some c := by
      have := c.toNat_lt
      show (if 0 ≤ (c.toNat : Int) ∧ (c.toNat : Int) < 256 then some (UInt8.ofNat (c.toNat : Int).toNat) else none) = some c; rw [if_pos (by omega)]; simp
    simp only [List.map_cons, octE, h1, octE_map l]
theorem octC_map : ∀ l : S, octC (l.map fun c => .p (.v (.int .u8 (c.toNat : Int)))) = some l
  | [] => rfl
  | c :: l => by
    have h1 : octV (.v (.int .u8 (c.toNat : Int))) = some c := by
      have := c.toNat_lt
      show (if 0 ≤ (c.toNat : Int) ∧ (c.toNat : Int) < 256 then some (UInt8.ofNat (c.toNat : Int).toNat) else none) = some c; rw [if_pos (by omega)]; simp
    simp only [List.map_cons, octC, h1, octC_map l]
theorem flat_oct (l : S) : (l.map encO).flatten.map Cell.p = l.map fun c => .p (.v (.int .u8 (c.toNat : Int))) := by
  induction l with
  | nil => rfl
  | cons c l ih => simp only [List.map_cons, List.flatten_cons, List.map_append, ih]; rfl
theorem encO_getD (l : S) (i : Nat) (h : i < l.length) : (l.map encO).getD i [] = encO l[i] := by simp [List.getD, h]

def OctRow (h : Heap) (id ver cap : Nat) (m : S) : Prop := ∃ T, h id = some (rowB ver (m.map encO) T) ∧ m.length * 1 + T.length = cap * 1 ∧ lowCs 0 T = true
theorem OctRow.cut {h : Heap} {id ver cap k : Nat} {m : S} (r : OctRow h id ver cap m) (hm : id < k) : OctRow (cutH k h) id ver cap m := by
  obtain ⟨T, h1, h2, h3⟩ := r
  exact ⟨T, cutH_same hm h1 (lowCs_app (lowCs_p _ _) (lowCs_mono (Nat.zero_le _) h3)), h2, h3⟩
theorem OctRow.ne {h : Heap} {id ver cap i : Nat} {m : S} {blk : Blk} (r : OctRow h id ver cap m) (hi : id ≠ i) : OctRow (upd h i blk) id ver cap m := by
  obtain ⟨T, h1, h2, h3⟩ := r
  exact ⟨T, by rw [upd_ne _ _ _ _ hi]; exact h1, h2, h3⟩

theorem append_oct {C : Ctx} {h : Heap} {n : Nat} {K : KT} {id ver cap tx : Nat} {x : AV} {m y : S} (hr : OctRow h id ver cap m) (htx : isIntT Tryd.prog tx = false)
    (hsrc : srcA h 1 x = some (y.length, y.map fun c => .p (.v (.int .u8 (c.toNat : Int))))) (hl : m.length ≤ 10000000) (hl2 : y.length ≤ 10000000)
    (k : ∀ cap' T', (m.length + y.length) * 1 + T'.length = cap' * 1 → lowCs 0 T' = true → K (.one (.win id (ver + 1) 0 (m.length + y.length) cap')) (upd h id (rowB (ver + 1) ((m ++ y).map encO) T')) n) :
    BiK Tryd.prog C .append [25, tx] [.one (.win id ver 0 m.length cap), x] h n K := by
  obtain ⟨T, h1, h3, h4⟩ := hr
  have hlm : (m.map encO).length = m.length := List.length_map _
  have hfl := okEs_len (okEs_oct m)
  rw [hlm] at hfl
  refine BiK.append_own (e := 5) (sz := 1) (bytes := 1) (m := y.length) (xs := y.map fun c => .p (.v (.int .u8 (c.toNat : Int)))) (blk := rowB ver (m.map encO) T) ty_slE_25 ty_tsz_5 ty_tzero_5 rfl ty_tby_5 htx h1 rfl
    (by rw [rowB]; simp only [List.length_append, List.length_map, hfl]; omega) hsrc (by intro c hc; obtain ⟨x, hx, rfl⟩ := List.mem_map.1 hc; rfl) (by omega) (by decide) (by omega) (fun cap' j q1 q2 => ?_)
  have e := row_push (sz := 1) (ver := ver + 1) (len := m.length) (es := m.map encO) (fs := y.map encO) (T := T) (okEs_oct m) hlm.symm j
  rw [flat_oct y] at e
  rw [show (rowB ver (m.map encO) T).cells = (m.map encO).flatten.map .p ++ T from rfl, e, show m.map encO ++ y.map encO = (m ++ y).map encO by simp]
  exact k cap' _ (by rw [List.length_replicate]; omega) (lowCs_junk _ _)

theorem append_nil_oct {C : Ctx} {h : Heap} {n : Nat} {K : KT} {tx : Nat} {x : AV} {y : S} (htx : isIntT Tryd.prog tx = false)
    (hsrc : srcA h 1 x = some (y.length, y.map fun c => .p (.v (.int .u8 (c.toNat : Int))))) (hl2 : y.length ≤ 10000000)
    (k : ∀ cap' T', y.length * 1 + T'.length = cap' * 1 → lowCs 0 T' = true → K (.one (.win (C.b + n) 1 0 y.length cap')) (upd h (C.b + n) (rowB 1 (y.map encO) T')) (n + 1)) :
    BiK Tryd.prog C .append [25, tx] [.one (.p (.v (.slice none 0 0))), x] h n K := by
  refine BiK.append_nil (e := 5) (sz := 1) (bytes := 1) (m := y.length) (xs := y.map fun c => .p (.v (.int .u8 (c.toNat : Int)))) ty_slE_25 ty_tsz_5 ty_tzero_5 rfl ty_tby_5 htx
    hsrc (by intro c hc; obtain ⟨x, hx, rfl⟩ := List.mem_map.1 hc; rfl) (by omega) (by decide) (by omega) (fun cap' j q1 q2 => ?_)
  have := k cap' (List.replicate j .junk) (by rw [List.length_replicate]; omega) (lowCs_junk _ _)
  rw [rowB, flat_oct] at this
  exact this
theorem frz_ps {h : Heap} {b : Nat} (l : List PD) : frzV h b (.agg (l.map .p)) (.agg (l.map .p)) := .agg rfl (fun i c d hc hd => by rw [hc] at hd; injection hd with hd; subst hd; obtain ⟨x, _, rfl⟩ := List.mem_map.1 (List.mem_of_getElem? hc); exact .inl ⟨rfl, rfl⟩)
/-- a nil slice handed in, where an own row is wanted -/
theorem ACalls.nilArg {P : Program} {f : FuncId} {al bs : List AV} {h : Heap} {b m : Nat} {R : AV → Heap → Prop}
    (c : ACalls P f (al ++ .one (.win b 0 0 0 0) :: bs) (upd h b ⟨0, []⟩) (b + 1) m R) : ACalls P f (al ++ .one (.p (.v (.slice none 0 0))) :: bs) h b (m + 1) R := by
  intro ι w vs hb hh ha
  have hbn : h b = none := hb b (Nat.le_refl _)
  have less : ∀ id blk, blk.cells ≠ [] → upd h b ⟨0, []⟩ id = some blk → h id = some blk := by
    intro id blk hne e
    by_cases hi : id = b
    · subst hi; rw [upd_same] at e; injection e with e; subst e; exact absurd rfl hne
    · rwa [upd_ne _ _ _ _ hi] at e
  have hst : ∀ x, stab ι h x → stab ι (upd h b ⟨0, []⟩) x := fun x s id blk e ne => s id blk (less id blk ne e) ne
  have M : Moves ι h b w ι (upd h b ⟨0, []⟩) (b + 1) w := by
    refine ⟨Nat.le_succ _, fun x s _ => hst x s, fun _ _ _ => rfl, fun id hid b' e => ?_⟩
    rw [upd_ne _ _ _ _ (by omega)] at e
    exact ⟨b', e, Nat.le_refl _, fun _ => rfl⟩
  have hh' : HeapOK ι (upd h b ⟨0, []⟩) (b + 1) w := by
    refine ⟨fun id blk e ne => ?_, fun i j bi bj hi hj ni nj => hh.inj i j bi bj (less _ _ ni hi) (less _ _ nj hj) ni nj⟩
    obtain ⟨c, ty, h1, h2, h3⟩ := hh.blk id blk (less _ _ ne e) ne
    exact ⟨c, ty, h1, h2, fun j d u hd hu => (h3 j d u hd hu).move M⟩
  have ha' : RAVs ι (upd h b ⟨0, []⟩) (b + 1) w (al ++ .one (.win b 0 0 0 0) :: bs) vs := by
    refine ⟨by rw [ha.1]; simp, fun i c u hc hu => ?_⟩
    by_cases hi : i = al.length
    · subst hi
      rw [List.getElem?_append_right (Nat.le_refl _), Nat.sub_self, List.getElem?_cons_zero] at hc
      injection hc with hc
      subst hc
      have := ha.2 al.length (.one (.p (.v (.slice none 0 0)))) u (by rw [List.getElem?_append_right (Nat.le_refl _), Nat.sub_self, List.getElem?_cons_zero]) hu
      obtain rfl := rav_v_inv this
      exact .one (.win (Nat.lt_succ_self _) (fun blk e => by rw [upd_same] at e; injection e with e; subst e; exact Nat.le_refl _) (fun _ _ _ => ⟨Nat.le_refl _, .inr ⟨rfl, rfl, rfl⟩⟩))
    · refine (ha.2 i c u ?_ hu).move M
      rw [← hc, List.getElem?_append, List.getElem?_append]
      split
      · rfl
      · obtain ⟨k, hk⟩ : ∃ k, i - al.length = k + 1 := ⟨i - al.length - 1, by omega⟩
        rw [hk, List.getElem?_cons_succ, List.getElem?_cons_succ]
  refine (c ι w vs (fun id hid => by rw [upd_ne _ _ _ _ (by omega)]; exact hb id (by omega)) hh' ha').mono ?_
  rintro e w' ⟨v, r, h', ι', rfl, hR, hp, hr⟩
  refine ⟨v, r, h', ι', rfl, hR, ⟨fun id hid b' e => ?_, fun id hid b' e ne => ?_, fun id hid => hp.bound id (by omega), ?_, ⟨hp.keeps.size, hp.keeps.os, hp.keeps.output, fun x s hx => hp.keeps.old x (hst x s) hx⟩⟩, ?_⟩
  · obtain ⟨b0, h0, h1⟩ := hp.outer id (by omega) b' e
    rw [upd_ne _ _ _ _ (by omega)] at h0
    exact ⟨b0, h0, h1⟩
  · by_cases hi : id = b
    · subst hi
      obtain ⟨b0, h0, h1, h2⟩ := hp.outer id (by omega) b' e
      rw [upd_same] at h0
      injection h0 with h0
      subst h0
      rcases h2 with ⟨h2, _⟩ | ⟨_, h2⟩
      · exact absurd (List.eq_nil_of_length_eq_zero h2.symm) ne
      · exact h2 ne
    · exact hp.fresh id (by omega) b' e ne
  · have := hp.heap; rwa [Nat.add_assoc, Nat.add_comm 1 m] at this
  · have := hr; rwa [Nat.add_assoc, Nat.add_comm 1 m] at this

end Go.Proofs.YthnhpbihgalgeaaDoor
