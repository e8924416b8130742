/-
  Results with an own row: what becomes of them as a body ends, and read-only.
-/
import Derived.Test.YtdannmfdenlikaaSlBase
namespace Go.Proofs.Ytdannmfdenlikaa
set_option linter.unusedSimpArgs false
set_option linter.unusedVariables false
set_option linter.unnecessarySimpa false
open Go Am

theorem renV_tup2 {h : Heap} {b : Nat} {L : List (Nat × List Cell)} {x y x' y' : AV} (h1 : renV h b L x x') (h2 : renV h b L y y') : renV h b L (.tup [x, y]) (.tup [x', y']) := by
  refine .tup rfl (fun i c d hc hd => ?_)
  match i with
  | 0 => simp at hc hd; subst hc; subst hd; exact h1
  | 1 => simp at hc hd; subst hc; subst hd; exact h2
  | i + 2 => simp at hc

theorem renV_tup3 {h : Heap} {b : Nat} {L : List (Nat × List Cell)} {x y z x' y' z' : AV} (h1 : renV h b L x x') (h2 : renV h b L y y') (h3 : renV h b L z z') : renV h b L (.tup [x, y, z]) (.tup [x', y', z']) := by
  refine .tup rfl (fun i c d hc hd => ?_)
  match i with
  | 0 => simp at hc hd; subst hc; subst hd; exact h1
  | 1 => simp at hc hd; subst hc; subst hd; exact h2
  | 2 => simp at hc hd; subst hc; subst hd; exact h3
  | i + 3 => simp at hc

theorem renV_agg2 {h : Heap} {b : Nat} {L : List (Nat × List Cell)} {x y x' y' : Cell} (h1 : renC h b L x x') (h2 : renC h b L y y') : renV h b L (.agg [x, y]) (.agg [x', y']) := by
  refine .agg rfl (fun i c d hc hd => ?_)
  match i with
  | 0 => simp at hc hd; subst hc; subst hd; exact h1
  | 1 => simp at hc hd; subst hc; subst hd; exact h2
  | i + 2 => simp at hc

theorem renC_p {h : Heap} {b : Nat} {L : List (Nat × List Cell)} (d : PD) : renC h b L (.p d) (.p d) := .inl ⟨rfl, rfl⟩
theorem renC_win0 {h : Heap} {b id : Nat} {cs : List Cell} {ver off len cap : Nat} : renC h b [(id, cs)] (.win id ver off len cap) (.win b ver off len cap) :=
  .inr (.inr (.inr (.inl ⟨0, id, cs, ver, off, len, cap, rfl, rfl, rfl⟩)))

/-- numbers below are as they were -/
theorem lowEq_ne {h h0 : Heap} {b : Nat} (e : ∀ id, id < b → h id = h0 id) {i : Nat} (hi : b ≤ i) (blk : Blk) : ∀ id, id < b → upd h i blk id = h0 id := fun id hid => by
  rw [upd_ne _ _ _ _ (by omega)]; exact e id hid

theorem int_c0 : ((0 : Nat) : Int) = 0 := rfl
theorem int_c1 : ((1 : Nat) : Int) = 1 := rfl
theorem int_c2 : ((2 : Nat) : Int) = 2 := rfl
theorem int_t0 : Int.toNat 0 = 0 := rfl
theorem int_t1 : Int.toNat 1 = 1 := rfl
theorem int_t2 : Int.toNat 2 = 2 := rfl

/-- a row with elements appended -/
theorem row_push {sz ver len : Nat} {es fs : List (List PD)} {T : List Cell} (ho : okEs sz es) (hl : len = es.length) (r : Nat) :
    (⟨ver, List.take (len * sz) (es.flatten.map Cell.p ++ T) ++ (fs.flatten.map Cell.p ++ List.replicate r .junk)⟩ : Blk) = rowB ver (es ++ fs) (List.replicate r .junk) := by
  have h1 := okEs_len ho
  have : List.take (len * sz) (es.flatten.map Cell.p ++ T) = es.flatten.map Cell.p := by
    rw [List.take_append_of_le_length (by rw [List.length_map, h1, hl]; exact Nat.le_refl _)]
    exact List.take_of_length_le (by rw [List.length_map, h1, hl]; exact Nat.le_refl _)
  rw [this, rowB_app]

end Go.Proofs.Ytdannmfdenlikaa
namespace Go.Proofs.Ytdannmfdenlikaa.Am
open Go

theorem ACalls.arg_eq {P : Program} {f : FuncId} {as1 as2 : List AV} {h : Heap} {b m : Nat} {R : AV → Heap → Prop} (c : ACalls P f as1 h b m R) (e : as2 = as1) : ACalls P f as2 h b m R := by rw [e]; exact c
/-- two ways that meet: what holds there -/
theorem AWP.mid {P : Program} {C : Ctx} {Q : Exit → St → Prop} {s : St} {x y : Code} (M : St → Prop) (h : AWP P C x (thn M Q) s) (k : ∀ s, M s → AWP P C y Q s) : AWP P C (.seq x y) Q s :=
  .seq (h.mono fun e s' q => by cases e <;> first | exact k s' q | exact q)

/-- numbers from the bound on are free -/
theorem AWP.known {P : Program} {C : Ctx} {Q : Exit → St → Prop} {c : Code} {t : Nat → AV} {h : Heap} {n : Nat} (k : (∀ id, C.b + n ≤ id → h id = none) → AWP P C c Q ⟨t, h, n⟩) : AWP P C c Q ⟨t, h, n⟩ :=
  fun a w ι I => k I.bound a w ι I

theorem Sub.same {S H : Heap} {id : Nat} {v : Blk} (s : Sub S H) (e : H id = some v) : Sub S (Am.upd H id v) := by rw [upd_self e]; exact s

end Go.Proofs.Ytdannmfdenlikaa.Am
