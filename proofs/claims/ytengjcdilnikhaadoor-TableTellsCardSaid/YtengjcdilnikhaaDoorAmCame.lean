/-
  The abstract machine: what is known of arguments that came in; the row's frame.
-/
import Derived.Test.YtengjcdilnikhaaDoorSlEnds
import Derived.Deep.Slices
import Derived.OpenShut
import Derived.ProofKit
namespace Go.Proofs.YtengjcdilnikhaaDoor.Am
set_option linter.unusedSimpArgs false
set_option linter.unusedVariables false
set_option linter.unnecessarySimpa false
open Go

/-- the form of one cell -/
inductive Sh
  | int (k : IntKind)
  | bool
  | flt (k : FloatKind)
  | str
  | sl (es : List Sh)

def shFs (P : Program) (rec : TypeId → Option (List Sh)) : List Field → Nat → Option (List Sh)
  | [], _ => some []
  | f :: fs, o => (rec f.type).bind fun l => if f.offset = o ∧ l.length = P.cellsOf f.type then (shFs P rec fs (o + l.length)).map (l ++ ·) else none

/-- the form of a type's cells -/
def shAt (P : Program) : Nat → TypeId → Option (List Sh)
  | 0, _ => none
  | n + 1, t => match P.underlying t with
    | some (.int k) => some [.int k]
    | some .bool => some [.bool]
    | some (.float k) => some [.flt k]
    | some .string => some [.str]
    | some (.slice e) => (shAt P n e).bind fun l => if l.length = P.cellsOf e ∧ l ≠ [] then some [.sl l] else none
    | some (.struct fs) => (shFs P (shAt P n) fs.toList 0).bind fun l => if l.length = P.cellsOf t then some l else none
    | some (.array k e) => (shAt P n e).bind fun l => if l.length = P.cellsOf e ∧ k * l.length = P.cellsOf t then some (repl l k) else none
    | _ => none

inductive Fit : Sh → PD → Prop
  | int {k : IntKind} {i : Int} (h : (Lit.int k i).wf = true) : Fit (.int k) (.v (.int k i))
  | bool (b : Bool) : Fit .bool (.v (.bool b))
  | flt {k : FloatKind} {b : Nat} (h : (Lit.float k b).wf = true) : Fit (.flt k) (.v (.float k b))
  | str {s : ByteArray} (h : s.size ≤ maxLen) : Fit .str (.v (.string s))
  | sl {l : List Sh} {rows : List (List PD)} (hm : rows.length ≤ maxLen) (hl : ∀ row ∈ rows, row.length = l.length)
      (hr : ∀ row ∈ rows, ∀ (j : Nat) (c : Sh) (d : PD), l[j]? = some c → row[j]? = some d → Fit c d) : Fit (.sl l) (.sl l.length rows)

def All : Nat → Prop := fun _ => True

/-- cells that came in, of such forms -/
def Came (w : World) (sh : List Sh) (cs : List Value) (ds : List PD) : Prop :=
  ds.length = sh.length ∧ cs.length = sh.length ∧ ∀ (j : Nat) (c : Sh) (d : PD) (u : Value), sh[j]? = some c → ds[j]? = some d → cs[j]? = some u → Fit c d ∧ RPD All w d u

theorem Came.one {w : World} {c : Sh} {d : PD} {u : Value} (h1 : Fit c d) (h2 : RPD All w d u) : Came w [c] [u] [d] := by
  refine ⟨rfl, rfl, fun j c' d' u' hc hd hu => ?_⟩
  match j with
  | 0 => simp at hc hd hu; subst hc; subst hd; subst hu; exact ⟨h1, h2⟩
  | j + 1 => simp at hc

theorem Came.app {w : World} {s1 s2 : List Sh} {c1 c2 : List Value} {d1 d2 : List PD} (h1 : Came w s1 c1 d1) (h2 : Came w s2 c2 d2) : Came w (s1 ++ s2) (c1 ++ c2) (d1 ++ d2) := by
  obtain ⟨a1, a2, a3⟩ := h1
  obtain ⟨b1, b2, b3⟩ := h2
  refine ⟨by simp [a1, b1], by simp [a2, b2], fun j c d u hc hd hu => ?_⟩
  rw [List.getElem?_append] at hc hd hu
  rw [a1] at hd
  rw [a2] at hu
  split at hc
  · rename_i hj; rw [if_pos hj] at hd hu; exact a3 j c d u hc hd hu
  · rename_i hj; rw [if_neg hj] at hd hu; exact b3 _ c d u hc hd hu

theorem cell_add {w : World} {a : Addr} {k : Nat} {v : Value} (h : w.cell? (a.add k) = some v) : w.cell? ⟨a.block, a.off + k, none⟩ = some v ∧ (k = 0 → a.spot = none) := by
  unfold Addr.add at h
  by_cases hk : k = 0
  · subst hk
    rw [if_pos rfl] at h
    have hs : a.spot = none := by
      unfold World.cell? at h
      split at h
      · split at h
        · cases h
        · rename_i hs; simpa using hs
      · cases h
    refine ⟨?_, fun _ => hs⟩
    obtain ⟨b, o, s⟩ := a
    simp only at hs
    subst hs
    exact h
  · rw [if_neg hk] at h
    exact ⟨h, fun e => absurd e hk⟩

theorem cells_get {w : World} {a : Addr} {n : Nat} {cs : List Value} (h : w.cells? 0 a n = some cs) : cs.length = n ∧ ∀ j u, cs[j]? = some u → w.cell? (a.add j) = some u := by
  unfold World.cells? at h
  rw [if_pos (Nat.zero_le _)] at h
  have hl : cs.length = n := by simpa using mapM_some_length h
  refine ⟨hl, fun j u hu => ?_⟩
  have hj : j < n := by rw [← hl]; exact (List.getElem?_eq_some_iff.1 hu).1
  have := mapM_some_get h j j (by simp [hj])
  rw [this]; exact hu

section
variable {H : Type} {enc : TypeId × Value → H} {P : Program} {w : World} {spare : Nat → Bool} {held : Bool}

theorem came : ∀ (n : Nat) (t : TypeId) (sh : List Sh), shAt P n t = some sh → ∀ (fuel : Nat) (cs : List Value) (x : DataW H × List MemPlace), DataW.trod enc P w 0 spare held fuel t cs = some x → ∃ ds, Came w sh cs ds
  | 0, _, _, h, _, _, _, _ => by cases h
  | n + 1, t, sh, h, fuel, cs, x, hx => by
    unfold shAt at h
    split at h
    · rename_i k hu
      injection h with h
      subst h
      obtain ⟨i, rfl, _, hw⟩ := DataW.trod_int hu hx
      exact ⟨[.v (.int k i)], .one (.int hw) (.v _)⟩
    · rename_i hu
      injection h with h
      subst h
      obtain ⟨b, rfl, _⟩ := DataW.trod_bool hu hx
      exact ⟨[.v (.bool b)], .one (.bool b) (.v _)⟩
    · rename_i k hu
      injection h with h
      subst h
      cases fuel with
      | zero => simp [DataW.trod] at hx
      | succ m =>
        unfold DataW.trod at hx
        rw [hu] at hx
        split at hx <;> try (simp_all; done)
        rename_i k1 k' b' hk
        injection hk with hk
        injection hk with hk
        subst hk
        split at hx
        · rename_i hc
          obtain ⟨rfl, hw⟩ := hc
          exact ⟨[.v (.float _ b')], .one (.flt hw) (.v _)⟩
        · cases hx
    · rename_i hu
      injection h with h
      subst h
      obtain ⟨s, rfl, _, hs⟩ := DataW.trod_string hu hx
      exact ⟨[.v (.string s)], .one (.str hs) (.v _)⟩
    · rename_i e hu
      cases hl : shAt P n e with
      | none => rw [hl] at h; simp at h
      | some l =>
        rw [hl] at h
        simp only [Option.bind_some] at h
        split at h
        · rename_i hc
          obtain ⟨hlen, hne⟩ := hc
          injection h with h
          subst h
          rcases Deep.open_slice hu hx with ⟨rfl, _⟩ | ⟨a, len, cap, m, n', D, Pl, rfl, _, hle, hcap, hm, _, hel⟩
          · exact ⟨[.sl l.length []], .one (.sl (Nat.zero_le _) (by simp) (by simp)) (.sl none 0 (fun _ _ => undef) (Nat.le_refl _) (fun _ => rfl) (fun _ e => by cases e) (by simp) (fun _ _ e => by simp at e) (fun _ _ e => by simp at e))⟩
          · have hlm : len ≤ m := by rw [hm]; split <;> omega
            have hex : ∀ i, ∃ p : List Value × List PD, i < len → w.cells? 0 (a.add (i * l.length)) l.length = some p.1 ∧ Came w l p.1 p.2 := by
              intro i
              by_cases hi : i < len
              · obtain ⟨cs', h1, h2⟩ := hel i (by omega)
                obtain ⟨ds, hds⟩ := came n e l hl _ _ _ h2
                rw [← hlen] at h1
                exact ⟨(cs', ds), fun _ => ⟨h1, hds⟩⟩
              · exact ⟨([], []), fun h => absurd h hi⟩
            obtain ⟨F, hF⟩ := Classical.axiomOfChoice hex
            have hcell : ∀ i, i < len → ∀ j u, (F i).1[j]? = some u → w.cell? (a.add (i * l.length + j)) = some u := by
              intro i hi j u hu
              have := (cells_get (hF i hi).1).2 j u hu
              rwa [Deep.add_add] at this
            have hrow : ∀ i row, ((List.range len).map fun i => (F i).2)[i]? = some row → i < len ∧ row = (F i).2 := by
              intro i row hr
              have hi : i < len := by
                rcases Nat.lt_or_ge i len with h' | h'
                · exact h'
                · rw [List.getElem?_eq_none (by simpa using h')] at hr; cases hr
              rw [List.getElem?_map, List.getElem?_range hi] at hr
              simp at hr
              exact ⟨hi, hr.symm⟩
            have hmem : ∀ row ∈ (List.range len).map (fun i => (F i).2), ∃ i, i < len ∧ row = (F i).2 := by
              intro row hr
              obtain ⟨i, hi, rfl⟩ := List.mem_map.1 hr
              exact ⟨i, by simpa using hi, rfl⟩
            have hrl : ((List.range len).map fun i => (F i).2).length = len := by simp
            refine ⟨[.sl l.length ((List.range len).map fun i => (F i).2)], .one (.sl (by rw [hrl]; omega) (fun row hr => ?_) (fun row hr j c d hc hd => ?_)) ?_⟩
            · obtain ⟨i, hi, rfl⟩ := hmem row hr
              exact (hF i hi).2.1
            · obtain ⟨i, hi, rfl⟩ := hmem row hr
              obtain ⟨b1, b2, b3⟩ := (hF i hi).2
              have hj : j < (F i).1.length := by rw [b2]; exact (List.getElem?_eq_some_iff.1 hc).1
              exact (b3 j c d _ hc hd (List.getElem?_eq_getElem hj)).1
            · have hlpos : 0 < l.length := List.length_pos_iff.2 hne
              have := RPD.sl (S := All) (w := w) (sz := l.length) (es := (List.range len).map fun i => (F i).2) (some a) cap (fun i j => (F i).1.getD j undef) (by rw [hrl]; exact hle) (fun hn => by cases hn)
                (fun A hA => by
                  injection hA with hA
                  subst hA
                  rcases Nat.eq_zero_or_pos len with h0 | h0
                  · left; rw [h0]; rfl
                  · right
                    have hlen0 : 0 < (F 0).1.length := by rw [(hF 0 h0).2.2.1]; exact hlpos
                    have := hcell 0 h0 0 _ (List.getElem?_eq_getElem hlen0)
                    simp only [Nat.zero_mul, Nat.add_zero] at this
                    exact (cell_add this).2 rfl)
                (fun row hr => by obtain ⟨i, hi, rfl⟩ := hmem row hr; exact (hF i hi).2.1)
                (fun i row hr j d hd => by
                  obtain ⟨hi, rfl⟩ := hrow i row hr
                  obtain ⟨b1, b2, b3⟩ := (hF i hi).2
                  have hj : j < (F i).1.length := by rw [b2, ← b1]; exact (List.getElem?_eq_some_iff.1 hd).1
                  refine ⟨a, rfl, trivial, ?_⟩
                  have := (cell_add (hcell i hi j _ (List.getElem?_eq_getElem hj))).1
                  rw [this]
                  simp [List.getD, hj])
                (fun i row hr j d hd => by
                  obtain ⟨hi, rfl⟩ := hrow i row hr
                  obtain ⟨b1, b2, b3⟩ := (hF i hi).2
                  have hj : j < (F i).1.length := by rw [b2, ← b1]; exact (List.getElem?_eq_some_iff.1 hd).1
                  have hjl : j < l.length := by rw [← b1]; exact (List.getElem?_eq_some_iff.1 hd).1
                  have := (b3 j _ d _ (List.getElem?_eq_getElem hjl) hd (List.getElem?_eq_getElem hj)).2
                  simpa [List.getD, hj] using this)
              rw [hrl] at this
              exact this
        · cases h
    · rename_i fs hu
      cases hl : shFs P (shAt P n) fs.toList 0 with
      | none => rw [hl] at h; simp at h
      | some l =>
        rw [hl] at h
        simp only [Option.bind_some] at h
        split at h
        · rename_i hc
          injection h with h
          subst h
          obtain ⟨xs, m, _, _, hcl, hxl, hf⟩ := DataW.trod_struct hu hx
          have key : ∀ (gs : List Field) (o : Nat) (l' : List Sh), shFs P (shAt P n) gs o = some l' → (∀ g ∈ gs, ∃ y, DataW.trod enc P w 0 spare held m g.type ((cs.drop g.offset).take (P.cellsOf g.type)) = some y) →
              o + l'.length ≤ cs.length → ∃ ds, Came w l' ((cs.drop o).take l'.length) ds := by
            intro gs
            induction gs with
            | nil => intro o l' h _ _; simp [shFs] at h; subst h; exact ⟨[], rfl, by simp, fun j c d u hc => by simp at hc⟩
            | cons g gs ih =>
              intro o l' h hg ho
              unfold shFs at h
              cases h1 : shAt P n g.type with
              | none => rw [h1] at h; simp at h
              | some l1 =>
                rw [h1] at h
                simp only [Option.bind_some] at h
                split at h
                · rename_i hcc
                  obtain ⟨rfl, hlc⟩ := hcc
                  cases h2 : shFs P (shAt P n) gs (g.offset + l1.length) with
                  | none => rw [h2] at h; simp at h
                  | some l2 =>
                    rw [h2] at h
                    simp only [Option.map_some, Option.some.injEq] at h
                    subst h
                    rw [List.length_append] at ho
                    obtain ⟨y, hy⟩ := hg g (by simp)
                    obtain ⟨d1, hd1⟩ := came n g.type l1 h1 _ _ _ hy
                    obtain ⟨d2, hd2⟩ := ih _ l2 h2 (fun g' hg' => hg g' (by simp [hg'])) (by omega)
                    rw [← hlc] at hd1
                    refine ⟨d1 ++ d2, ?_⟩
                    have e : (cs.drop g.offset).take (l1 ++ l2).length = (cs.drop g.offset).take l1.length ++ (cs.drop (g.offset + l1.length)).take l2.length := by
                      rw [List.length_append, List.take_add, List.drop_drop]
                    rw [e]
                    exact hd1.app hd2
                · cases h
          obtain ⟨ds, hds⟩ := key fs.toList 0 l hl (fun g hg => by
            obtain ⟨i, hi⟩ := List.mem_iff_getElem?.1 hg
            have hi' : fs[i]? = some g := by simpa using hi
            have hlt : i < xs.length := by rw [hxl]; exact (Array.getElem?_eq_some_iff.1 hi').1
            exact ⟨xs[i], by rw [hf i g hi', List.getElem?_eq_getElem hlt]⟩) (by rw [Nat.zero_add, hcl, hc]; exact Nat.le_refl _)
          refine ⟨ds, ?_⟩
          rw [List.drop_zero, List.take_of_length_le (by rw [hcl, hc]; exact Nat.le_refl _)] at hds
          exact hds
        · cases h
    · rename_i k e hu
      cases hl : shAt P n e with
      | none => rw [hl] at h; simp at h
      | some l =>
        rw [hl] at h
        simp only [Option.bind_some] at h
        split at h
        · rename_i hc
          obtain ⟨hlen, htot⟩ := hc
          injection h with h
          subst h
          obtain ⟨xs, m, _, _, hcl, hxl, hf⟩ := DataW.trod_array hu hx
          have key : ∀ q, q ≤ k → ∃ ds, Came w (repl l (k - q)) (cs.drop (q * l.length)) ds := by
            intro q hq
            obtain ⟨r, hr⟩ : ∃ r, r = k - q := ⟨_, rfl⟩
            induction r generalizing q with
            | zero =>
              have hqk : q = k := by omega
              subst hqk
              rw [Nat.sub_self]
              refine ⟨[], rfl, ?_, fun j c d u hc => by simp [repl] at hc⟩
              rw [List.length_drop, hcl, ← htot]; simp [repl]
            | succ r ih =>
              have hqk : q < k := by omega
              obtain ⟨d2, hd2⟩ := ih (q + 1) (by omega) (by omega)
              have hx1 := hf q hqk
              rw [List.getElem?_eq_getElem (by omega)] at hx1
              obtain ⟨d1, hd1⟩ := came n e l hl _ _ _ hx1
              rw [← hlen] at hd1
              refine ⟨d1 ++ d2, ?_⟩
              rw [show k - q = (k - (q + 1)) + 1 by omega]
              show Came w (l ++ repl l (k - (q + 1))) _ _
              have e : cs.drop (q * l.length) = (cs.drop (q * l.length)).take l.length ++ cs.drop ((q + 1) * l.length) := by
                rw [Nat.add_mul, Nat.one_mul, ← List.drop_drop]
                exact (List.take_append_drop _ _).symm
              rw [e]
              exact hd1.app hd2
          obtain ⟨ds, hds⟩ := key 0 (Nat.zero_le _)
          exact ⟨ds, by simpa using hds⟩
        · cases h
    · cases h
end

/-! ### inversions -/
def FitAll (sh : List Sh) (ds : List PD) : Prop := ds.length = sh.length ∧ ∀ (j : Nat) (c : Sh) (d : PD), sh[j]? = some c → ds[j]? = some d → Fit c d

theorem FitAll.nil {ds : List PD} (h : FitAll [] ds) : ds = [] := List.eq_nil_of_length_eq_zero h.1
theorem FitAll.cons {c : Sh} {sh : List Sh} {ds : List PD} (h : FitAll (c :: sh) ds) : ∃ d ds', ds = d :: ds' ∧ Fit c d ∧ FitAll sh ds' := by
  obtain ⟨h1, h2⟩ := h
  cases ds with
  | nil => simp at h1
  | cons d ds => exact ⟨d, ds, rfl, h2 0 c d rfl rfl, by simpa using h1, fun j c' d' hc hd => h2 (j + 1) c' d' (by simpa using hc) (by simpa using hd)⟩
theorem Fit.int_inv {k : IntKind} {d : PD} (h : Fit (.int k) d) : ∃ i, d = .v (.int k i) ∧ (Lit.int k i).wf = true := by cases h with | int hw => exact ⟨_, rfl, hw⟩
theorem Fit.bool_inv {d : PD} (h : Fit .bool d) : ∃ b, d = .v (.bool b) := by cases h with | bool b => exact ⟨b, rfl⟩
theorem Fit.str_inv {d : PD} (h : Fit .str d) : ∃ s, d = .v (.string s) ∧ s.size ≤ maxLen := by cases h with | str hs => exact ⟨_, rfl, hs⟩
theorem Fit.flt_inv {k : FloatKind} {d : PD} (h : Fit (.flt k) d) : ∃ b, d = .v (.float k b) ∧ (Lit.float k b).wf = true := by cases h with | flt hw => exact ⟨_, rfl, hw⟩
theorem Fit.sl_inv {l : List Sh} {d : PD} (h : Fit (.sl l) d) : ∃ rows, d = .sl l.length rows ∧ rows.length ≤ maxLen ∧ ∀ row ∈ rows, FitAll l row := by
  cases h with
  | sl hm hl hr => exact ⟨_, rfl, hm, fun row h => ⟨hl row h, hr row h⟩⟩

theorem rows_map {α : Type} {enc : α → List PD} {q : α → Prop} : ∀ {rows : List (List PD)}, (∀ row ∈ rows, ∃ x, row = enc x ∧ q x) → ∃ l : List α, rows = l.map enc ∧ ∀ x ∈ l, q x
  | [], _ => ⟨[], rfl, by simp⟩
  | r :: rows, h => by
    obtain ⟨x, rfl, hx⟩ := h r (by simp)
    obtain ⟨l, rfl, hl⟩ := rows_map (rows := rows) (enc := enc) (q := q) (fun row hr => h row (by simp [hr]))
    exact ⟨x :: l, rfl, fun y hy => by
      rcases List.mem_cons.1 hy with rfl | hy
      · exact hx
      · exact hl y hy⟩

/-! ### arguments -/
/-- no abstract block -/
def none0 : Heap := fun _ => none

theorem rcell_came {w : World} {ι : Nat → Nat} {bd : Nat} {d : PD} {u : Value} (h : RPD All w d u) : RCell ι none0 bd w (.p d) u :=
  .p (h.mono (fun _ _ _ _ _ e _ => by cases e) (fun _ _ _ => rfl))

section
variable {H : Type} {enc : TypeId × Value → H} {P : Program} {w : World} {spare : Nat → Bool} {held : Bool} {r : Reach} {base : Nat}

theorem arg_agg {n : Nat} {t : TypeId} {sh : List Sh} {v : Value} {d : DataW H} {p : List MemPlace} (hs : shAt P n t = some sh) (ht : tagg P t = some true) (hv : Value.okWide P w r base t v) (h : DataW.Trod enc P w 0 spare held t v d p) :
    ∃ ds, FitAll sh ds ∧ ∀ ι bd, RAV ι none0 bd w (.agg (ds.map .p)) v := by
  have hag : ∃ cs, v = .agg cs := by
    unfold tagg at ht
    unfold Value.okWide at hv
    split at ht
    · rename_i hu; rw [hu] at hv; obtain ⟨cs, h, _⟩ := hv; exact ⟨cs, h⟩
    · rename_i hu; rw [hu] at hv; obtain ⟨cs, h, _⟩ := hv; exact ⟨cs, h⟩
    · simp at ht
    · simp at ht
  obtain ⟨cs, rfl⟩ := hag
  obtain ⟨fuel, hf⟩ := h
  obtain ⟨ds, h1, h2, h3⟩ := came n t sh hs _ _ _ hf
  have h2' : cs.toList.length = sh.length := by simpa [Value.cells] using h2
  refine ⟨ds, ⟨h1, fun j c d hc hd => ?_⟩, fun ι bd => ?_⟩
  · have hj : j < cs.toList.length := by rw [h2']; exact (List.getElem?_eq_some_iff.1 hc).1
    exact (h3 j c d cs.toList[j] hc hd (by simp [Value.cells])).1
  · have : RAV ι none0 bd w (.agg (ds.map .p)) (.agg cs.toList.toArray) := by
      refine .agg _ (by rw [h2', List.length_map, h1]) (fun i c u hc hu => ?_)
      rw [List.getElem?_map] at hc
      cases hd : ds[i]? with
      | none => rw [hd] at hc; simp at hc
      | some d =>
        rw [hd] at hc
        simp at hc
        subst hc
        have hj : i < sh.length := by rw [← h1]; exact (List.getElem?_eq_some_iff.1 hd).1
        exact rcell_came (h3 i sh[i] d u (List.getElem?_eq_getElem hj) hd (by simpa [Value.cells] using hu)).2
    simpa using this

theorem arg_one {n : Nat} {t : TypeId} {c : Sh} {v : Value} {d : DataW H} {p : List MemPlace} (hs : shAt P n t = some [c]) (ht : tagg P t = some false) (hv : Value.okWide P w r base t v) (h : DataW.Trod enc P w 0 spare held t v d p) :
    ∃ d, Fit c d ∧ ∀ ι bd, RAV ι none0 bd w (.one (.p d)) v := by
  have hone : v.cells.toList = [v] := by
    unfold shAt at hs
    cases n with
    | zero => cases hs
    | succ n =>
      simp only at hs
      split at hs
      · rename_i k hu; obtain ⟨i, rfl⟩ := WideShapes.okWide_int hu hv; rfl
      · rename_i hu; obtain ⟨i, rfl⟩ := WideShapes.okWide_bool hu hv; rfl
      · rename_i k hu
        have : ∃ b, v = .float k b := by
          simp only [Value.okWide, hu, Cell.okWide] at hv
          cases v <;> simp_all [Cell.ok]
        obtain ⟨b, rfl⟩ := this; rfl
      · rename_i hu; obtain ⟨i, rfl⟩ := WideShapes.okWide_string hu hv; rfl
      · rename_i hu; obtain ⟨a, b, c, rfl⟩ := WideShapes.okWide_slice hu hv; rfl
      · rename_i hu; unfold tagg at ht; rw [hu] at ht; simp at ht
      · rename_i hu; unfold tagg at ht; rw [hu] at ht; simp at ht
      · cases hs
  obtain ⟨fuel, hf⟩ := h
  obtain ⟨ds, h1, h2, h3⟩ := came n t [c] hs _ _ _ hf
  rw [hone] at h3
  match ds, h1 with
  | [d], _ =>
    obtain ⟨k1, k2⟩ := h3 0 c d v rfl rfl rfl
    exact ⟨d, k1, fun ι bd => .one (rcell_came k2)⟩
end

/-! ### the row -/
/-- what was there is as it was -/
structure Old (w w' : World) : Prop where
  os : w'.os = w.os
  output : w'.output = w.output
  size : w.heap.size ≤ w'.heap.size
  block : ∀ k, k < w.heap.size → w'.heap[k]? = w.heap[k]?

theorem law_calls {P : Program} {f : FuncId} {al : List AV} {w : World} {vs : List Value} (c : ACalls P f al none0 0 0 (fun r h' => r = .one (.p (.v (.bool true))) ∧ h' = none0)) (ha : RAVs id none0 0 w al vs) :
    Calls P f vs.toArray w (fun e w' => e = .returned (.bool true) ∧ Old w w') := by
  refine (c id w vs (fun _ _ => rfl) ⟨fun _ _ e => by (cases e), fun _ _ _ _ e => by cases e⟩ ha).mono fun e w' ⟨v, r, h', ι', he, ⟨hr, _⟩, hp, hv⟩ => ?_
  subst hr
  rw [rav_v_inv hv] at he
  exact ⟨he, hp.keeps.os, hp.keeps.output, hp.keeps.size, fun k hk => hp.keeps.old k (fun _ _ e => by cases e) hk⟩

theorem Old.same {w w' : World} (h : Old w w') {p : MemPlace} (hp : p.block < w.heap.size) : w.sameAt w' p := by
  cases p with
  | cell b o => exact World.cell?_of_block (w := w) (h.block b hp)
  | map b => exact h.block b hp

theorem Old.kept {w w' : World} (h : Old w w') (may : MemPlace → Prop) : w.keptBut w' may := by
  refine ⟨h.os, h.output, fun i hi => ?_⟩
  rw [h.block i hi]
  split <;> simp_all

theorem trodAll_stays {H : Type} {enc : TypeId × Value → H} {P : Program} (hl : laidOutB P = true) {w w' : World} {sp : Nat → Bool} : ∀ {ts : List TypeId} {vs : List Value} {ds : List (DataW H)} {ps : List MemPlace},
    (ts.all fun t => P.readableRec t && decide (t < P.types.size)) = true → DataW.TrodAll enc P w 0 (fun _ => true) true ts vs ds ps → (∀ p ∈ ps, w.sameAt w' p) → (∀ p ∈ ps, sp p.block = true) → DataW.TrodAll enc P w' 0 sp true ts vs ds ps
  | [], _, _, _, _, h, _, _ => by
    obtain ⟨rfl, rfl, rfl⟩ := ChangeShapes.trodAll_nil h
    rfl
  | t :: ts, _, _, _, ht, h, h1, h2 => by
    obtain ⟨v, vs1, d, ds1, a, b, rfl, rfl, rfl, g1, g2⟩ := ChangeShapes.trodAll_cons h
    simp only [List.all_cons, Bool.and_eq_true, decide_eq_true_eq] at ht
    exact ⟨a, b, WideElems.Trod_stays hl ht.1.1 ht.1.2 g1 (fun p hp => h1 p (by simp [hp])) (fun p hp => h2 p (by simp [hp])),
      trodAll_stays hl (by simpa using ht.2) g2 (fun p hp => h1 p (by simp [hp])) (fun p hp => h2 p (by simp [hp])), rfl⟩

theorem law_post {H : Type} {enc : TypeId × Value → H} {P : Program} {f : Func} {s : ChangeSpec} {apart fresh handsOn again : Bool} {w w' : World} {args : Array Value} {ds gs : List (DataW H)} {before : List MemPlace} {tb : TypeId}
    (hl : laidOutB P = true) (hts : (f.params.toList.all fun t => P.readableRec t && decide (t < P.types.size)) = true) (hvars : s.vars = []) (hr : f.resultTypes = #[tb]) (hb : P.underlying tb = some .bool)
    (hW : DataW.Whole enc P f.params.toList s.vars apart w args.toList ds gs before) (hres : (s.fn H (ds ++ gs)).results = [.lit (.bool true)]) (hargs : (s.fn H (ds ++ gs)).args = ds) (hvs : (s.fn H (ds ++ gs)).vars = []) (h : Old w w') :
    s.post enc P f apart fresh handsOn again w args (.bool true) w' := by
  have hW' := hW
  obtain ⟨p, q, hA, hV, rfl, hz, hn⟩ := hW
  rw [hvars] at hV
  have hlt : ∀ x ∈ p ++ q, x.block < w.heap.size := fun x hx => hW'.lt x hx
  have hq : q = [] := by
    cases gs with
    | nil => exact hV
    | cons g gs => exact hV.elim
  subst hq
  have hA2 : ∀ sp : Nat → Bool, (∀ x ∈ p, sp x.block = true) → DataW.TrodAll enc P w' 0 sp true f.params.toList args.toList ds p := fun sp hsp =>
    trodAll_stays hl hts hA (fun x hx => h.same (hlt x (by simp [hx]))) hsp
  have hR : ∀ (b : Nat) (sp : Nat → Bool) (hd : Bool), DataW.TrodAll enc P w' b sp hd f.resultTypes.toList ((Value.bool true).resultList f.resultTypes.size) (s.fn H (ds ++ gs)).results [] := by
    intro b sp hd
    rw [hres, hr]
    exact ChangeShapes.trodAll_mk1 (RowKit.shut_bool hb true)
  have hOK : ∀ (j : Nat) (t : TypeId) (r : Value), f.resultTypes[j]? = some t → ((Value.bool true).resultList f.resultTypes.size)[j]? = some r → Value.okWide P w' .any 0 t r := RowKit.ok_one hr rfl (RowKit.okWide_bool_mk hb true)
  refine ⟨ds, gs, p ++ [], [], p, [], hW', hR _ _ _, by rw [hargs]; exact hA2 _ (fun x hx => by simpa using hlt x (by simp [hx])), by rw [hvars, hvs]; rfl, h.kept _, fun _ => ⟨hOK, .lit (.bool true) :: ds, [], [] ++ p ++ [], ⟨[] ++ p, [], ?_, by rw [hvars]; rfl, rfl, ?_, ?_⟩, ?_⟩⟩
  · have := ChangeShapes.trodAll_append (hA2 (fun _ => true) (fun _ _ => rfl)) (hR 0 (fun _ => true) true)
    rw [hres] at this
    exact this
  · intro b off hp
    rw [World.frozen?_of_block (w := w) (h.block b (by have := hlt (.cell b off) (by simpa using hp); exact this))]
    exact hz b off (by simpa using hp)
  · intro ha
    simpa using hn ha
  · intro x hx _
    simpa using hx

end Go.Proofs.YtengjcdilnikhaaDoor.Am
