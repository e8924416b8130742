/-
  Go's package slices: what its functions compute, on lists; rows of a call's own.
-/
import Derived.Test.YtengjcdilnikhaaDoorAmGrow
import Derived.Test.YtengjcdilnikhaaDoorAmLoop
import Derived.Test.YtengjcdilnikhaaDoorAmTy
namespace Go.Proofs.YtengjcdilnikhaaDoor
set_option linter.unusedSimpArgs false
set_option linter.unusedVariables false
set_option linter.unnecessarySimpa false
open Go Am

abbrev IntV (n : Int) : AV := .one (.p (.v (.int .i64 n)))
abbrev BoolV (b : Bool) : AV := .one (.p (.v (.bool b)))

def okPD : PD → Bool
  | .v x => x.oneCell'
  | .sl _ _ | .slc _ _ => true

/-- elements that can be copied -/
def okEs (sz : Nat) (es : List (List PD)) : Prop := ∀ e ∈ es, e.length = sz ∧ ∀ d ∈ e, okPD d = true

theorem okEs_flat {sz : Nat} {es : List (List PD)} (o : okEs sz es) (h : Heap) : ∀ c ∈ es.flatten.map Cell.p, okC h c = true := by
  intro c hc
  obtain ⟨d, hd, rfl⟩ := List.mem_map.1 hc
  obtain ⟨e, he, hde⟩ := List.mem_flatten.1 hd
  have := (o e he).2 d hde
  cases d <;> exact this

theorem okEs_len {sz : Nat} {es : List (List PD)} (o : okEs sz es) : es.flatten.length = es.length * sz := (flat_get sz es (fun e he => (o e he).1)).1

theorem lowCs_p (b : Nat) (ds : List PD) : lowCs b (ds.map Cell.p) = true := lowCs_of fun c hc => by obtain ⟨d, _, rfl⟩ := List.mem_map.1 hc; rfl
theorem lowCs_app {b : Nat} {x y : List Cell} (h1 : lowCs b x = true) (h2 : lowCs b y = true) : lowCs b (x ++ y) = true :=
  lowCs_of fun c hc => by rcases List.mem_append.1 hc with h | h; exact lowCs_mem h1 c h; exact lowCs_mem h2 c h
theorem lowCs_junk (b k : Nat) : lowCs b (List.replicate k .junk) = true := lowCs_of fun c hc => by have := (List.mem_replicate.1 hc).2; subst this; rfl

/-- a row's block: elements, and what is behind them -/
abbrev rowB (ver : Nat) (es : List (List PD)) (T : List Cell) : Blk := ⟨ver, es.flatten.map .p ++ T⟩

/-- a row at number b (new, or turned): what it holds, and how much room it has behind -/
def rowR (sz : Nat) (es : List (List PD)) (h : Heap) (b : Nat) (r : AV) (h' : Heap) : Prop :=
  ∃ ver cap T, es.length ≤ cap ∧ cap * sz = es.length * sz + T.length ∧ lowCs 0 T = true ∧ r = .one (.win b ver 0 es.length cap) ∧ h' = upd h b (rowB ver es T)

/-- the first place, from i on -/
def idxFrom {α : Type} (f : α → Bool) : Nat → List α → Int
  | _, [] => -1
  | i, x :: r => if f x = true then (i : Int) else idxFrom f (i + 1) r

theorem cutH_id {b m : Nat} {h h0 : Heap} (hm : m = b) (ho : ∀ id, id < b → h id = h0 id) (hn : ∀ id, b ≤ id → h0 id = none) (hl : ∀ id blk, h0 id = some blk → ∀ c ∈ blk.cells, lowC b c = true) : cutH m h = h0 := by
  subst hm
  funext i
  rcases Nat.lt_or_ge i m with hi | hi
  · exact cutH_outer (Nat.le_refl _) ho hl i hi
  · rw [hn i hi]; unfold cutH; rw [if_neg (by omega)]

theorem cutV_clo {m : Nat} {f : Fn} {c : List Cell} (h : lowCs m c = true) : cutV m (.one (.clo f [] c)) = .one (.clo f [] c) := by
  simp [cutV, cutC, lowC, h, lowCs]

theorem getD_map {α : Type} (enc : α → List PD) (l : List α) (i : Nat) (h : i < l.length) : (l.map enc).getD i [] = enc l[i] := by simp [List.getD, h]

theorem flatten_take {α : Type} (sz : Nat) : ∀ (m : Nat) (es : List (List α)), (∀ e ∈ es, e.length = sz) → es.flatten.take (m * sz) = (es.take m).flatten
  | 0, es, _ => by simp
  | m + 1, [], _ => by simp
  | m + 1, e :: es, h => by
    have he : e.length = sz := h e (by simp)
    have ih := flatten_take sz m es (fun x hx => h x (by simp [hx]))
    rw [List.flatten_cons, List.take_succ_cons, List.flatten_cons, ← ih, List.take_append, List.take_of_length_le (by rw [he, Nat.add_mul]; omega)]
    congr 2
    rw [he, Nat.add_mul]; omega

theorem flatten_drop {α : Type} (sz : Nat) : ∀ (m : Nat) (es : List (List α)), (∀ e ∈ es, e.length = sz) → es.flatten.drop (m * sz) = (es.drop m).flatten
  | 0, es, _ => by simp
  | m + 1, [], _ => by simp
  | m + 1, e :: es, h => by
    have he : e.length = sz := h e (by simp)
    have ih := flatten_drop sz m es (fun x hx => h x (by simp [hx]))
    rw [List.flatten_cons, List.drop_succ_cons, ← ih, List.drop_append, List.drop_of_length_le (by rw [he, Nat.add_mul]; omega), List.nil_append]
    congr 1
    rw [he, Nat.add_mul]; omega

theorem okEs.take {sz : Nat} {es : List (List PD)} (o : okEs sz es) (k : Nat) : okEs sz (es.take k) := fun e he => o e (List.mem_of_mem_take he)
theorem okEs.drop {sz : Nat} {es : List (List PD)} (o : okEs sz es) (k : Nat) : okEs sz (es.drop k) := fun e he => o e (List.mem_of_mem_drop he)
theorem okEs.append {sz : Nat} {es fs : List (List PD)} (o : okEs sz es) (o' : okEs sz fs) : okEs sz (es ++ fs) := fun e he => (List.mem_append.1 he).elim (o e) (o' e)
theorem okEs.len {sz : Nat} {es : List (List PD)} (o : okEs sz es) : ∀ e ∈ es, e.length = sz := fun e he => (o e he).1

/-- what is read of a part of a row -/
theorem srcA_row {h : Heap} {id ver sz m off cap : Nat} {es : List (List PD)} {T : List Cell} (j : Nat) (hb : h id = some (rowB ver es T)) (ho : okEs sz es) (hj : j + m ≤ es.length) (hoff : off = j * sz ∨ (m = 0 ∧ off = 0)) :
    srcA h sz (.one (.win id ver off m cap)) = some (m, ((es.drop j).take m).flatten.map .p) := by
  have hfl := okEs_len ho
  have hle2 : off + m * sz ≤ (rowB ver es T).cells.length := by
    rcases hoff with h0 | ⟨h0, h1⟩
    · subst h0
      have := Nat.mul_le_mul_right sz hj
      rw [Nat.add_mul] at this
      simp only [List.length_append, List.length_map, hfl]
      omega
    · subst h0; subst h1; simp
  simp only [srcA, hb]
  rw [if_pos ⟨trivial, hle2⟩]
  congr 2
  rcases hoff with h0 | ⟨h0, h1⟩
  · subst h0
    rw [List.drop_append_of_le_length (by rw [List.length_map, hfl]; exact Nat.mul_le_mul_right sz (by omega)), ← List.map_drop, flatten_drop sz j es ho.len,
      List.take_append_of_le_length (by rw [List.length_map, okEs_len (ho.drop j), List.length_drop]; exact Nat.mul_le_mul_right sz (by omega)), ← List.map_take, flatten_take sz m _ (ho.drop j).len]
  · subst h0; simp

/-- a row is written from a place on, within its elements, and all behind is let be -/
theorem spl_row {sz i : Nat} {es fs : List (List PD)} (T : List Cell) (ho : okEs sz es) (hf : okEs sz fs) (hi : i + fs.length ≤ es.length) :
    spl (es.flatten.map .p ++ T) (i * sz) (fs.flatten.map .p) = (es.take i ++ fs).flatten.map .p ++ ((es.drop (i + fs.length)).flatten.map .p ++ T) := by
  have hfl := okEs_len ho
  unfold spl
  rw [List.length_map, okEs_len hf, ← Nat.add_mul]
  have h1 : i * sz ≤ (es.flatten.map Cell.p).length := by rw [List.length_map, hfl]; exact Nat.mul_le_mul_right sz (by omega)
  have h2 : (i + fs.length) * sz ≤ (es.flatten.map Cell.p).length := by rw [List.length_map, hfl]; exact Nat.mul_le_mul_right sz hi
  rw [List.take_append_of_le_length h1, List.drop_append_of_le_length h2, ← List.map_take, ← List.map_drop, flatten_take sz i es ho.len, flatten_drop sz _ es ho.len, List.flatten_append, List.map_append, List.append_assoc]

theorem repl_flat (z : List PD) (n : Nat) : repl (z.map Cell.p) n = (List.replicate n z).flatten.map .p := by
  induction n with
  | zero => rfl
  | succ n ih => rw [List.replicate_succ, List.flatten_cons, List.map_append, ← ih]; rfl

theorem rowB_app (ver : Nat) (es vs : List (List PD)) (T : List Cell) : rowB ver (es ++ vs) T = ⟨ver, es.flatten.map .p ++ (vs.flatten.map .p ++ T)⟩ := by
  show (⟨ver, (es ++ vs).flatten.map .p ++ T⟩ : Blk) = _
  rw [List.flatten_append, List.map_append, List.append_assoc]

theorem rowB_zeros (ver : Nat) (es : List (List PD)) (zs : List Value) (n : Nat) (T : List Cell) : (⟨ver, es.flatten.map .p ++ (repl (zs.map fun v => Cell.p (.v v)) n ++ T)⟩ : Blk) = rowB ver (es ++ List.replicate n (zs.map .v)) T := by
  rw [rowB_app, ← repl_flat, List.map_map]
  rfl

/-- elements are written into a row -/
theorem spl_els {sz i off : Nat} {es fs : List (List PD)} (T : List Cell) (ho : okEs sz es) (hf : okEs sz fs) (hi : i + fs.length ≤ es.length) (ver : Nat) (hoff : off = i * sz) :
    (⟨ver, spl (es.flatten.map .p ++ T) off (fs.flatten.map .p)⟩ : Blk) = rowB ver (es.take i ++ (fs ++ es.drop (i + fs.length))) T := by
  subst hoff
  rw [spl_row T ho hf hi, rowB_app, List.flatten_append, List.map_append, List.flatten_append, List.map_append, List.append_assoc, List.append_assoc]

theorem spl_length {cs xs : List Cell} {off : Nat} (h : off + xs.length ≤ cs.length) : (spl cs off xs).length = cs.length := by
  unfold spl
  rw [List.length_append, List.length_append, List.length_take, List.length_drop]
  omega

/-- what is read of a row, and of the room behind it -/
theorem srcA_room {h : Heap} {id ver sz off m cap : Nat} {es : List (List PD)} {T : List Cell} (j : Nat) (hb : h id = some (rowB ver es T)) (ho : okEs sz es) (hj : j ≤ es.length) (hoff : off = j * sz) (hm : off + m * sz ≤ es.length * sz + T.length) (hq : es.length - j ≤ m) :
    ∃ xs, srcA h sz (.one (.win id ver off m cap)) = some (m, xs) ∧ xs.take ((es.length - j) * sz) = (es.drop j).flatten.map .p := by
  have hfl := okEs_len ho
  subst hoff
  refine ⟨_, by simp only [srcA, hb]; rw [if_pos ⟨trivial, by simp only [List.length_append, List.length_map, hfl]; exact hm⟩], ?_⟩
  have h1 := Nat.mul_le_mul_right sz hq
  rw [List.take_take, Nat.min_eq_left h1, List.drop_append_of_le_length (by rw [List.length_map, hfl]; exact Nat.mul_le_mul_right sz hj), ← List.map_drop, flatten_drop sz j es ho.len, List.take_left' (by rw [List.length_map, okEs_len (ho.drop j), List.length_drop])]

/-- the middle is written -/
theorem spl_mid {X G Y xs : List Cell} {off : Nat} (h : off = X.length) (hg : xs.length = G.length) : spl (X ++ (G ++ Y)) off xs = X ++ (xs ++ Y) := by
  subst h
  unfold spl
  rw [List.take_left, hg, List.drop_append, List.drop_of_length_le (Nat.le_add_right _ _), List.nil_append, Nat.add_sub_cancel_left, List.drop_left]

/-- elements are moved up by d -/
theorem spl_up {A B T : List Cell} {o1 : Nat} (d : Nat) (h1 : o1 = A.length + d) (hT : d ≤ T.length) : ∃ G : List Cell, G.length = d ∧ spl (A ++ (B ++ T)) o1 B = A ++ (G ++ (B ++ T.drop d)) := by
  have hd : B ++ T = (B ++ T).take d ++ (((B ++ T).drop d).take B.length ++ T.drop d) := by
    have e1 : T.drop d = ((B ++ T).drop d).drop B.length := by
      rw [List.drop_drop, Nat.add_comm, List.drop_append, List.drop_of_length_le (Nat.le_add_right _ _), List.nil_append]
      congr 1; omega
    rw [e1, List.take_append_drop, List.take_append_drop]
  have hg : ((B ++ T).take d).length = d := by rw [List.length_take, List.length_append]; omega
  have hh : (((B ++ T).drop d).take B.length).length = B.length := by rw [List.length_take, List.length_drop, List.length_append]; omega
  refine ⟨(B ++ T).take d, hg, ?_⟩
  conv => lhs; rw [hd]
  rw [← List.append_assoc A, spl_mid (by rw [List.length_append, hg, h1]) hh.symm, List.append_assoc A]

/-- elements are moved up, and others put in between -/
theorem spl_ins {A B T V : List Cell} {o1 o2 : Nat} (h2 : o2 = A.length) (h1 : o1 = A.length + V.length) (hT : V.length ≤ T.length) : spl (spl (A ++ (B ++ T)) o1 B) o2 V = A ++ (V ++ (B ++ T.drop V.length)) := by
  have hd : B ++ T = (B ++ T).take V.length ++ (((B ++ T).drop V.length).take B.length ++ T.drop V.length) := by
    have e1 : T.drop V.length = ((B ++ T).drop V.length).drop B.length := by
      rw [List.drop_drop, Nat.add_comm, List.drop_append, List.drop_of_length_le (Nat.le_add_right _ _), List.nil_append]
      congr 1; omega
    rw [e1, List.take_append_drop, List.take_append_drop]
  have hg : ((B ++ T).take V.length).length = V.length := by rw [List.length_take, List.length_append]; omega
  have hh : (((B ++ T).drop V.length).take B.length).length = B.length := by rw [List.length_take, List.length_drop, List.length_append]; omega
  rw [hd, ← List.append_assoc A, spl_mid (by rw [List.length_append, hg, h1]) hh.symm, List.append_assoc A, spl_mid h2 hg.symm]

theorem okEs_replicate {sz : Nat} {z : List PD} (hl : z.length = sz) (hz : z.all okPD = true) (n : Nat) : okEs sz (List.replicate n z) := fun e he => by
  have := (List.mem_replicate.1 he).2
  subst this
  exact ⟨hl, fun d hd => List.all_eq_true.1 hz d hd⟩

theorem spl_tail {A T xs : List Cell} {off : Nat} (h : off = A.length) : spl (A ++ T) off xs = A ++ (xs ++ T.drop xs.length) := by
  subst h
  unfold spl
  rw [List.take_left, List.drop_append, List.drop_of_length_le (Nat.le_add_right _ _), List.nil_append, Nat.add_sub_cancel_left]

theorem lowCs_drop {b : Nat} {x : List Cell} (h : lowCs b x = true) (k : Nat) : lowCs b (x.drop k) = true := lowCs_of fun c hc => lowCs_mem h c (List.mem_of_mem_drop hc)
theorem lowCs_mono {m m' : Nat} (h : m ≤ m') {x : List Cell} (e : lowCs m x = true) : lowCs m' x = true := lowCs_of fun c hc => lowC_mono h (lowCs_mem e c hc)
theorem lowCs_repl {b : Nat} {zs : List Cell} (h : lowCs b zs = true) (n : Nat) : lowCs b (repl zs n) = true := by
  induction n with
  | zero => rfl
  | succ n ih => exact lowCs_app h ih

theorem frz_tup2 {h : Heap} {b : Nat} {x y x' y' : AV} (h1 : frzV h b x x') (h2 : frzV h b y y') : frzV h b (.tup [x, y]) (.tup [x', y']) := by
  refine .tup rfl (fun i c d hc hd => ?_)
  match i with
  | 0 => simp at hc hd; subst hc; subst hd; exact h1
  | 1 => simp at hc hd; subst hc; subst hd; exact h2
  | i + 2 => simp at hc

theorem frz_tup3 {h : Heap} {b : Nat} {x y z x' y' z' : AV} (h1 : frzV h b x x') (h2 : frzV h b y y') (h3 : frzV h b z z') : frzV h b (.tup [x, y, z]) (.tup [x', y', z']) := by
  refine .tup rfl (fun i c d hc hd => ?_)
  match i with
  | 0 => simp at hc hd; subst hc; subst hd; exact h1
  | 1 => simp at hc hd; subst hc; subst hd; exact h2
  | 2 => simp at hc hd; subst hc; subst hd; exact h3
  | i + 3 => simp at hc

theorem frz_agg2 {h : Heap} {b : Nat} {x y x' y' : Cell} (h1 : frzC h b x x') (h2 : frzC h b y y') : frzV h b (.agg [x, y]) (.agg [x', y']) := by
  refine .agg rfl (fun i c d hc hd => ?_)
  match i with
  | 0 => simp at hc hd; subst hc; subst hd; exact h1
  | 1 => simp at hc hd; subst hc; subst hd; exact h2
  | i + 2 => simp at hc

theorem frz_p {h : Heap} {b : Nat} (d : PD) : frzC h b (.p d) (.p d) := .inl ⟨rfl, rfl⟩
theorem frz_nil {h : Heap} {b : Nat} (sz : Nat) : frzC h b (.p (.v (.slice none 0 0))) (.p (.sl sz [])) := .inr (.inl ⟨sz, rfl, rfl⟩)

theorem row_cells {sz : Nat} {es : List (List PD)} (ho : okEs sz es) (ver : Nat) (T : List Cell) : ∀ (i : Nat) (e : List PD), es[i]? = some e → ∀ (j : Nat) (x : PD), e[j]? = some x → (rowB ver es T).cells[0 + (i * sz + j)]? = some (.p x) := by
  intro i e he j x hx
  obtain ⟨f1, f2⟩ := flat_get sz es ho.len
  have hl := ho.len e (List.mem_of_getElem? he)
  have hj : j < sz := by rw [← hl]; exact (List.getElem?_eq_some_iff.1 hx).1
  have hi : i < es.length := (List.getElem?_eq_some_iff.1 he).1
  have hm := Nat.mul_le_mul_right sz (show i + 1 ≤ es.length by omega)
  rw [Nat.add_mul] at hm
  show (es.flatten.map Cell.p ++ T)[0 + (i * sz + j)]? = some (.p x)
  rw [Nat.zero_add, List.getElem?_append_left (by rw [List.length_map, f1]; omega), List.getElem?_map, f2 i j e he hj, hx]
  rfl

/-- an own row, read only -/
theorem frz_row0 {h : Heap} {b id ver cap sz : Nat} {es : List (List PD)} {T : List Cell} (hid : b ≤ id) (hb : h id = some (rowB ver es T)) (ho : okEs sz es) : frzC h b (.win id ver 0 es.length cap) (.p (.sl sz es)) :=
  .inr (.inr ⟨id, ver, 0, es.length, cap, sz, es, rowB ver es T, rfl, rfl, hid, hb, rfl, rfl, ho.len, row_cells ho ver T⟩)

/-- arguments of which less is known -/
theorem ACalls.args {P : Program} {f : FuncId} {as1 as' : List AV} {h : Heap} {b m : Nat} {R : AV → Heap → Prop} (c : ACalls P f as' h b m R) (le : ∀ ι w vs, RAVs ι h b w as1 vs → RAVs ι h b w as' vs) : ACalls P f as1 h b m R :=
  fun ι w vs hb hh ha => c ι w vs hb hh (le ι w vs ha)

theorem nil_sl {ι : Nat → Nat} {h : Heap} {bd : Nat} {w : World} {v : Value} (sz : Nat) (r : RCell ι h bd w (.p (.v (.slice none 0 0))) v) : RCell ι h bd w (.p (.sl sz [])) v := by
  cases r with
  | p hd => cases hd with
    | v => exact .p (RPD.sl (sz := sz) (es := []) none 0 (fun _ _ => undef) (Nat.le_refl _) (fun _ => rfl) (fun _ e => by cases e) (fun _ e => by cases e) (fun _ _ e => by simp at e) (fun _ _ e => by simp at e))

theorem Moves.wide {ι : Nat → Nat} {h : Heap} {bd bd' : Nat} {w : World} (hb : bd ≤ bd') : Moves ι h bd w ι h bd' w :=
  ⟨hb, fun _ s _ => s, fun _ _ _ => rfl, fun _ _ b' e => ⟨b', e, Nat.le_refl _, fun _ => rfl⟩⟩

theorem Ends.le {P : Program} {C : Ctx} {fn : Func} {m m' : Nat} {R : AV → Heap → Prop} {s : St} (hm : m ≤ m') (e : Am.Ends P C fn m R s) : Am.Ends P C fn m' R s := by
  intro a w ι I
  obtain ⟨v, r, h', ι', h1, h2, p, h3⟩ := e a w ι I
  have M : Moves ι' h' (C.b + m) w ι' h' (C.b + m') w := Moves.wide (by omega)
  refine ⟨v, r, h', ι', h1, h2, ⟨p.outer, p.fresh, fun id hid => p.bound id (by omega), ⟨fun id b e ne => ?_, p.heap.inj⟩, p.keeps⟩, h3.move M⟩
  obtain ⟨c, ty, g1, g2, g3⟩ := p.heap.blk id b e ne
  exact ⟨c, ty, g1, g2, fun j d u hd hu => (g3 j d u hd hu).move M⟩

end Go.Proofs.YtengjcdilnikhaaDoor
