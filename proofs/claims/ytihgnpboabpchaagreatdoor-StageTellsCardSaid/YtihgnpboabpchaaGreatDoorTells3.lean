/-
 Part 3 of the proof of stageTells_card: steps of the machine, walks and plain laws; each holds under the conditions that it states.
-/
import Derived.Test.YtihgnpboabpchaaGreatDoorTells2
import Derived.Deep.Slices
import Derived.OpenShut
import Derived.ProofKit
import Derived.RangeFuncRecord
import Derived.RangeFuncLeaves
import Derived.BigFrameIn
import Derived.Shelf.Strings.Builder1
import Derived.Shelf.Strings.Builder2
import Derived.Shelf.Strings.OnBuilder
import Derived.Shelf.Small.Bits
import Derived.Shelf.Strconv.Itoa0
import Derived.Shelf.Strings.Search1
import Derived.Shelf.Strings.Search2
import Derived.Shelf.Strings.Search3
import Derived.Shelf.Strings.Count
import Derived.Shelf.LaysM
import Derived.Shelf.Strings.Shaped
import Derived.Shelf.Strings.Prefix
import Derived.Shelf.Strings.Split
import Derived.Shelf.Unicode.DecodeSlow
import Derived.Test.YtihgnpboabpchaaGreatDoorProg
import Derived.Test.YtihgnpboabpchaaGreatDoorCards
import Derived.Test.YtihgnpboabpchaaGreatDoorTie
import Derived.Lay
import Derived.MakeChecks
import Derived.SevenTiedAt
import Derived.Test.YtihgnpboabpchaaGreatDoorTells1
namespace Go.Proofs.YtihgnpboabpchaaGreatDoor.Am
set_option linter.unusedSimpArgs false
set_option linter.unusedVariables false
set_option linter.unnecessarySimpa false
open Go
inductive Sh
 | int (k : IntKind)
 | bool
 | flt (k : FloatKind)
 | str
 | sl (es : List Sh)
def shFs (P : Program) (rec : TypeId → Option (List Sh)) : List Field → Nat → Option (List Sh)
 | [], _ => some []
 | f :: fs, o => (rec f.type).bind fun l => if f.offset = o ∧ l.length = P.cellsOf f.type then (shFs P rec fs (o + l.length)).map (l ++ ·) else none
def shAt (P : Program) : Nat → TypeId → Option (List Sh)
 | 0, _ => none
 | n + 1, t => match P.underlying t with
   | some (.int k) => some [.int k]
   | some .bool => some [.bool]
   | some (.float k) => some [.flt k]
   | some .string => some [.str]
   | some (.slice e) => (shAt P n e).bind fun l => if l.length = P.cellsOf e ∧ l ≠ [] then some [.sl l] else none
   | some (.struct fs) => (shFs P (shAt P n) fs.toList 0).bind fun l => if l.length = P.cellsOf t then some l else none
   | some (.array k e) => (shAt P n e).bind fun l => if l.length = P.cellsOf e ∧ k * l.length = P.cellsOf t then some (repl l k) else none
   | _ => none
inductive Fit : Sh → PD → Prop
 | int {k : IntKind} {i : Int} (h : (Lit.int k i).wf = true) : Fit (.int k) (.v (.int k i))
 | bool (b : Bool) : Fit .bool (.v (.bool b))
 | flt {k : FloatKind} {b : Nat} (h : (Lit.float k b).wf = true) : Fit (.flt k) (.v (.float k b))
 | str {s : ByteArray} (h : s.size ≤ maxLen) : Fit .str (.v (.string s))
 | sl {l : List Sh} {rows : List (List PD)} (hm : rows.length ≤ maxLen) (hl : ∀ row ∈ rows, row.length = l.length)
   (hr : ∀ row ∈ rows, ∀ (j : Nat) (c : Sh) (d : PD), l[j]? = some c → row[j]? = some d → Fit c d) : Fit (.sl l) (.sl l.length rows)
def All : Nat → Prop := fun _ => True
def Came (w : World) (sh : List Sh) (cs : List Value) (ds : List PD) : Prop :=
 ds.length = sh.length ∧ cs.length = sh.length ∧ ∀ (j : Nat) (c : Sh) (d : PD) (u : Value), sh[j]? = some c → ds[j]? = some d → cs[j]? = some u → Fit c d ∧ RPD All w d u
theorem Came.one {w : World} {c : Sh} {d : PD} {u : Value} (h1 : Fit c d) (h2 : RPD All w d u) : Came w [c] [u] [d] := by
 refine ⟨rfl, rfl, fun j c' d' u' hc hd hu => ?_⟩
 match j with
 | 0 => simp at hc hd hu; subst hc; subst hd; subst hu; exact ⟨h1, h2⟩
 | j + 1 => simp at hc
theorem Came.app {w : World} {s1 s2 : List Sh} {c1 c2 : List Value} {d1 d2 : List PD} (h1 : Came w s1 c1 d1) (h2 : Came w s2 c2 d2) : Came w (s1 ++ s2) (c1 ++ c2) (d1 ++ d2) := by
 obtain ⟨a1, a2, a3⟩ := h1
 obtain ⟨b1, b2, b3⟩ := h2
 refine ⟨by simp [a1, b1], by simp [a2, b2], fun j c d u hc hd hu => ?_⟩
 rw [List.getElem?_append] at hc hd hu
 rw [a1] at hd
 rw [a2] at hu
 split at hc
 ·rename_i hj; rw [if_pos hj] at hd hu; exact a3 j c d u hc hd hu
 ·rename_i hj; rw [if_neg hj] at hd hu; exact b3 _ c d u hc hd hu
theorem cell_add {w : World} {a : Addr} {k : Nat} {v : Value} (h : w.cell? (a.add k) = some v) : w.cell? ⟨a.block, a.off + k, none⟩ = some v ∧ (k = 0 → a.spot = none) := by
 unfold Addr.add at h
 by_cases hk : k = 0
 ·subst hk
  rw [if_pos rfl] at h
  have hs : a.spot = none := by
   unfold World.cell? at h
   split at h
   ·split at h
    ·cases h
    ·rename_i hs; simpa using hs
   ·cases h
  refine ⟨?_, fun _ => hs⟩
  obtain ⟨b, o, s⟩ := a
  simp only at hs
  subst hs
  exact h
 ·rw [if_neg hk] at h
  exact ⟨h, fun e => absurd e hk⟩
theorem cells_get {w : World} {a : Addr} {n : Nat} {cs : List Value} (h : w.cells? 0 a n = some cs) : cs.length = n ∧ ∀ j u, cs[j]? = some u → w.cell? (a.add j) = some u := by
 unfold World.cells? at h
 rw [if_pos (Nat.zero_le _)] at h
 have hl : cs.length = n := by simpa using mapM_some_length h
 refine ⟨hl, fun j u hu => ?_⟩
 have hj : j < n := by rw [← hl]; exact (List.getElem?_eq_some_iff.1 hu).1
 have := mapM_some_get h j j (by simp [hj])
 rw [this]; exact hu
section
variable {H : Type} {enc : TypeId × Value → H} {P : Program} {w : World} {spare : Nat → Bool} {held : Bool}
theorem came : ∀ (n : Nat) (t : TypeId) (sh : List Sh), shAt P n t = some sh → ∀ (fuel : Nat) (cs : List Value) (x : DataW H × List MemPlace), DataW.trod enc P w 0 spare held fuel t cs = some x → ∃ ds, Came w sh cs ds
 | 0, _, _, h, _, _, _, _ => by cases h
 | n + 1, t, sh, h, fuel, cs, x, hx => by
   unfold shAt at h
   split at h
   ·rename_i k hu
    injection h with h
    subst h
    obtain ⟨i, rfl, _, hw⟩ := DataW.trod_int hu hx
    exact ⟨[.v (.int k i)], .one (.int hw) (.v _)⟩
   ·rename_i hu
    injection h with h
    subst h
    obtain ⟨b, rfl, _⟩ := DataW.trod_bool hu hx
    exact ⟨[.v (.bool b)], .one (.bool b) (.v _)⟩
   ·rename_i k hu
    injection h with h
    subst h
    cases fuel with
    | zero => simp [DataW.trod] at hx
    | succ m =>
      unfold DataW.trod at hx
      rw [hu] at hx
      split at hx <;> try (simp_all; done)
      rename_i k1 k' b' hk
      injection hk with hk
      injection hk with hk
      subst hk
      split at hx
      ·rename_i hc
       obtain ⟨rfl, hw⟩ := hc
       exact ⟨[.v (.float _ b')], .one (.flt hw) (.v _)⟩
      ·cases hx
   ·rename_i hu
    injection h with h
    subst h
    obtain ⟨s, rfl, _, hs⟩ := DataW.trod_string hu hx
    exact ⟨[.v (.string s)], .one (.str hs) (.v _)⟩
   ·rename_i e hu
    cases hl : shAt P n e with
    | none => rw [hl] at h; simp at h
    | some l =>
      rw [hl] at h
      simp only [Option.bind_some] at h
      split at h
      ·rename_i hc
       obtain ⟨hlen, hne⟩ := hc
       injection h with h
       subst h
       rcases Deep.open_slice hu hx with ⟨rfl, _⟩ | ⟨a, len, cap, m, n', D, Pl, rfl, _, hle, hcap, hm, _, hel⟩
       ·exact ⟨[.sl l.length []], .one (.sl (Nat.zero_le _) (by simp) (by simp)) (.sl none 0 (fun _ _ => undef) (Nat.le_refl _) (fun _ => rfl) (fun _ e => by cases e) (by simp) (fun _ _ e => by simp at e) (fun _ _ e => by simp at e))⟩
       ·have hlm : len ≤ m := by rw [hm]; split <;> omega
        have hex : ∀ i, ∃ p : List Value × List PD, i < len → w.cells? 0 (a.add (i * l.length)) l.length = some p.1 ∧ Came w l p.1 p.2 := by
         intro i
         by_cases hi : i < len
         ·obtain ⟨cs', h1, h2⟩ := hel i (by omega)
          obtain ⟨ds, hds⟩ := came n e l hl _ _ _ h2
          rw [← hlen] at h1
          exact ⟨(cs', ds), fun _ => ⟨h1, hds⟩⟩
         ·exact ⟨([], []), fun h => absurd h hi⟩
        obtain ⟨F, hF⟩ := Classical.axiomOfChoice hex
        have hcell : ∀ i, i < len → ∀ j u, (F i).1[j]? = some u → w.cell? (a.add (i * l.length + j)) = some u := by
         intro i hi j u hu
         have := (cells_get (hF i hi).1).2 j u hu
         rwa [Deep.add_add] at this
        have hrow : ∀ i row, ((List.range len).map fun i => (F i).2)[i]? = some row → i < len ∧ row = (F i).2 := by
         intro i row hr
         have hi : i < len := by
          rcases Nat.lt_or_ge i len with h' | h'
          ·exact h'
          ·rw [List.getElem?_eq_none (by simpa using h')] at hr; cases hr
         rw [List.getElem?_map, List.getElem?_range hi] at hr
         simp at hr
         exact ⟨hi, hr.symm⟩
        have hmem : ∀ row ∈ (List.range len).map (fun i => (F i).2), ∃ i, i < len ∧ row = (F i).2 := by
         intro row hr
         obtain ⟨i, hi, rfl⟩ := List.mem_map.1 hr
         exact ⟨i, by simpa using hi, rfl⟩
        have hrl : ((List.range len).map fun i => (F i).2).length = len := by simp
        refine ⟨[.sl l.length ((List.range len).map fun i => (F i).2)], .one (.sl (by rw [hrl]; omega) (fun row hr => ?_) (fun row hr j c d hc hd => ?_)) ?_⟩
        ·obtain ⟨i, hi, rfl⟩ := hmem row hr
         exact (hF i hi).2.1
        ·obtain ⟨i, hi, rfl⟩ := hmem row hr
         obtain ⟨b1, b2, b3⟩ := (hF i hi).2
         have hj : j < (F i).1.length := by rw [b2]; exact (List.getElem?_eq_some_iff.1 hc).1
         exact (b3 j c d _ hc hd (List.getElem?_eq_getElem hj)).1
        ·have hlpos : 0 < l.length := List.length_pos_iff.2 hne
         have := RPD.sl (S := All) (w := w) (sz := l.length) (es := (List.range len).map fun i => (F i).2) (some a) cap (fun i j => (F i).1.getD j undef) (by rw [hrl]; exact hle) (fun hn => by cases hn)
          (fun A hA => by
           injection hA with hA
           subst hA
           rcases Nat.eq_zero_or_pos len with h0 | h0
           ·left; rw [h0]; rfl
           ·right
            have hlen0 : 0 < (F 0).1.length := by rw [(hF 0 h0).2.2.1]; exact hlpos
            have := hcell 0 h0 0 _ (List.getElem?_eq_getElem hlen0)
            simp only [Nat.zero_mul, Nat.add_zero] at this
            exact (cell_add this).2 rfl)
          (fun row hr => by obtain ⟨i, hi, rfl⟩ := hmem row hr; exact (hF i hi).2.1)
          (fun i row hr j d hd => by
           obtain ⟨hi, rfl⟩ := hrow i row hr
           obtain ⟨b1, b2, b3⟩ := (hF i hi).2
           have hj : j < (F i).1.length := by rw [b2, ← b1]; exact (List.getElem?_eq_some_iff.1 hd).1
           refine ⟨a, rfl, trivial, ?_⟩
           have := (cell_add (hcell i hi j _ (List.getElem?_eq_getElem hj))).1
           rw [this]
           simp [List.getD, hj])
          (fun i row hr j d hd => by
           obtain ⟨hi, rfl⟩ := hrow i row hr
           obtain ⟨b1, b2, b3⟩ := (hF i hi).2
           have hj : j < (F i).1.length := by rw [b2, ← b1]; exact (List.getElem?_eq_some_iff.1 hd).1
           have hjl : j < l.length := by rw [← b1]; exact (List.getElem?_eq_some_iff.1 hd).1
           have := (b3 j _ d _ (List.getElem?_eq_getElem hjl) hd (List.getElem?_eq_getElem hj)).2
           simpa [List.getD, hj] using this)
         rw [hrl] at this
         exact this
      ·cases h
   ·rename_i fs hu
    cases hl : shFs P (shAt P n) fs.toList 0 with
    | none => rw [hl] at h; simp at h
    | some l =>
      rw [hl] at h
      simp only [Option.bind_some] at h
      split at h
      ·rename_i hc
       injection h with h
       subst h
       obtain ⟨xs, m, _, _, hcl, hxl, hf⟩ := DataW.trod_struct hu hx
       have key : ∀ (gs : List Field) (o : Nat) (l' : List Sh), shFs P (shAt P n) gs o = some l' → (∀ g ∈ gs, ∃ y, DataW.trod enc P w 0 spare held m g.type ((cs.drop g.offset).take (P.cellsOf g.type)) = some y) →
         o + l'.length ≤ cs.length → ∃ ds, Came w l' ((cs.drop o).take l'.length) ds := by
        intro gs
        induction gs with
        | nil => intro o l' h _ _; simp [shFs] at h; subst h; exact ⟨[], rfl, by simp, fun j c d u hc => by simp at hc⟩
        | cons g gs ih =>
          intro o l' h hg ho
          unfold shFs at h
          cases h1 : shAt P n g.type with
          | none => rw [h1] at h; simp at h
          | some l1 =>
            rw [h1] at h
            simp only [Option.bind_some] at h
            split at h
            ·rename_i hcc
             obtain ⟨rfl, hlc⟩ := hcc
             cases h2 : shFs P (shAt P n) gs (g.offset + l1.length) with
             | none => rw [h2] at h; simp at h
             | some l2 =>
               rw [h2] at h
               simp only [Option.map_some, Option.some.injEq] at h
               subst h
               rw [List.length_append] at ho
               obtain ⟨y, hy⟩ := hg g (by simp)
               obtain ⟨d1, hd1⟩ := came n g.type l1 h1 _ _ _ hy
               obtain ⟨d2, hd2⟩ := ih _ l2 h2 (fun g' hg' => hg g' (by simp [hg'])) (by omega)
               rw [← hlc] at hd1
               refine ⟨d1 ++ d2, ?_⟩
               have e : (cs.drop g.offset).take (l1 ++ l2).length = (cs.drop g.offset).take l1.length ++ (cs.drop (g.offset + l1.length)).take l2.length := by
                rw [List.length_append, List.take_add, List.drop_drop]
               rw [e]
               exact hd1.app hd2
            ·cases h
       obtain ⟨ds, hds⟩ := key fs.toList 0 l hl (fun g hg => by
        obtain ⟨i, hi⟩ := List.mem_iff_getElem?.1 hg
        have hi' : fs[i]? = some g := by simpa using hi
        have hlt : i < xs.length := by rw [hxl]; exact (Array.getElem?_eq_some_iff.1 hi').1
        exact ⟨xs[i], by rw [hf i g hi', List.getElem?_eq_getElem hlt]⟩) (by rw [Nat.zero_add, hcl, hc]; exact Nat.le_refl _)
       refine ⟨ds, ?_⟩
       rw [List.drop_zero, List.take_of_length_le (by rw [hcl, hc]; exact Nat.le_refl _)] at hds
       exact hds
      ·cases h
   ·rename_i k e hu
    cases hl : shAt P n e with
    | none => rw [hl] at h; simp at h
    | some l =>
      rw [hl] at h
      simp only [Option.bind_some] at h
      split at h
      ·rename_i hc
       obtain ⟨hlen, htot⟩ := hc
       injection h with h
       subst h
       obtain ⟨xs, m, _, _, hcl, hxl, hf⟩ := DataW.trod_array hu hx
       have key : ∀ q, q ≤ k → ∃ ds, Came w (repl l (k - q)) (cs.drop (q * l.length)) ds := by
        intro q hq
        obtain ⟨r, hr⟩ : ∃ r, r = k - q := ⟨_, rfl⟩
        induction r generalizing q with
        | zero =>
          have hqk : q = k := by omega
          subst hqk
          rw [Nat.sub_self]
          refine ⟨[], rfl, ?_, fun j c d u hc => by simp [repl] at hc⟩
          rw [List.length_drop, hcl, ← htot]; simp [repl]
        | succ r ih =>
          have hqk : q < k := by omega
          obtain ⟨d2, hd2⟩ := ih (q + 1) (by omega) (by omega)
          have hx1 := hf q hqk
          rw [List.getElem?_eq_getElem (by omega)] at hx1
          obtain ⟨d1, hd1⟩ := came n e l hl _ _ _ hx1
          rw [← hlen] at hd1
          refine ⟨d1 ++ d2, ?_⟩
          rw [show k - q = (k - (q + 1)) + 1 by omega]
          show Came w (l ++ repl l (k - (q + 1))) _ _
          have e : cs.drop (q * l.length) = (cs.drop (q * l.length)).take l.length ++ cs.drop ((q + 1) * l.length) := by
           rw [Nat.add_mul, Nat.one_mul, ← List.drop_drop]
           exact (List.take_append_drop _ _).symm
          rw [e]
          exact hd1.app hd2
       obtain ⟨ds, hds⟩ := key 0 (Nat.zero_le _)
       exact ⟨ds, by simpa using hds⟩
      ·cases h
   ·cases h
end
def FitAll (sh : List Sh) (ds : List PD) : Prop := ds.length = sh.length ∧ ∀ (j : Nat) (c : Sh) (d : PD), sh[j]? = some c → ds[j]? = some d → Fit c d
theorem FitAll.nil {ds : List PD} (h : FitAll [] ds) : ds = [] := List.eq_nil_of_length_eq_zero h.1
theorem FitAll.cons {c : Sh} {sh : List Sh} {ds : List PD} (h : FitAll (c :: sh) ds) : ∃ d ds', ds = d :: ds' ∧ Fit c d ∧ FitAll sh ds' := by
 obtain ⟨h1, h2⟩ := h
 cases ds with
 | nil => simp at h1
 | cons d ds => exact ⟨d, ds, rfl, h2 0 c d rfl rfl, by simpa using h1, fun j c' d' hc hd => h2 (j + 1) c' d' (by simpa using hc) (by simpa using hd)⟩
theorem Fit.int_inv {k : IntKind} {d : PD} (h : Fit (.int k) d) : ∃ i, d = .v (.int k i) ∧ (Lit.int k i).wf = true := by cases h with | int hw => exact ⟨_, rfl, hw⟩
theorem Fit.bool_inv {d : PD} (h : Fit .bool d) : ∃ b, d = .v (.bool b) := by cases h with | bool b => exact ⟨b, rfl⟩
theorem Fit.str_inv {d : PD} (h : Fit .str d) : ∃ s, d = .v (.string s) ∧ s.size ≤ maxLen := by cases h with | str hs => exact ⟨_, rfl, hs⟩
theorem Fit.flt_inv {k : FloatKind} {d : PD} (h : Fit (.flt k) d) : ∃ b, d = .v (.float k b) ∧ (Lit.float k b).wf = true := by cases h with | flt hw => exact ⟨_, rfl, hw⟩
theorem Fit.sl_inv {l : List Sh} {d : PD} (h : Fit (.sl l) d) : ∃ rows, d = .sl l.length rows ∧ rows.length ≤ maxLen ∧ ∀ row ∈ rows, FitAll l row := by
 cases h with
 | sl hm hl hr => exact ⟨_, rfl, hm, fun row h => ⟨hl row h, hr row h⟩⟩
theorem rows_map {α : Type} {enc : α → List PD} {q : α → Prop} : ∀ {rows : List (List PD)}, (∀ row ∈ rows, ∃ x, row = enc x ∧ q x) → ∃ l : List α, rows = l.map enc ∧ ∀ x ∈ l, q x
 | [], _ => ⟨[], rfl, by simp⟩
 | r :: rows, h => by
   obtain ⟨x, rfl, hx⟩ := h r (by simp)
   obtain ⟨l, rfl, hl⟩ := rows_map (rows := rows) (enc := enc) (q := q) (fun row hr => h row (by simp [hr]))
   exact ⟨x :: l, rfl, fun y hy => by
    rcases List.mem_cons.1 hy with rfl | hy
    ·exact hx
    ·exact hl y hy⟩
def none0 : Heap := fun _ => none
theorem rcell_came {w : World} {ι : Nat → Nat} {bd : Nat} {d : PD} {u : Value} (h : RPD All w d u) : RCell ι none0 bd w (.p d) u :=
 .p (h.mono (fun _ _ _ _ _ e _ => by cases e) (fun _ _ _ => rfl))
section
variable {H : Type} {enc : TypeId × Value → H} {P : Program} {w : World} {spare : Nat → Bool} {held : Bool} {r : Reach} {base : Nat}
theorem arg_agg {n : Nat} {t : TypeId} {sh : List Sh} {v : Value} {d : DataW H} {p : List MemPlace} (hs : shAt P n t = some sh) (ht : tagg P t = some true) (hv : Value.okWide P w r base t v) (h : DataW.Trod enc P w 0 spare held t v d p) :
  ∃ ds, FitAll sh ds ∧ ∀ ι bd, RAV ι none0 bd w (.agg (ds.map .p)) v := by
 have hag : ∃ cs, v = .agg cs := by
  unfold tagg at ht
  unfold Value.okWide at hv
  split at ht
  ·rename_i hu; rw [hu] at hv; obtain ⟨cs, h, _⟩ := hv; exact ⟨cs, h⟩
  ·rename_i hu; rw [hu] at hv; obtain ⟨cs, h, _⟩ := hv; exact ⟨cs, h⟩
  ·simp at ht
  ·simp at ht
 obtain ⟨cs, rfl⟩ := hag
 obtain ⟨fuel, hf⟩ := h
 obtain ⟨ds, h1, h2, h3⟩ := came n t sh hs _ _ _ hf
 have h2' : cs.toList.length = sh.length := by simpa [Value.cells] using h2
 refine ⟨ds, ⟨h1, fun j c d hc hd => ?_⟩, fun ι bd => ?_⟩
 ·have hj : j < cs.toList.length := by rw [h2']; exact (List.getElem?_eq_some_iff.1 hc).1
  exact (h3 j c d cs.toList[j] hc hd (by simp [Value.cells])).1
 ·have : RAV ι none0 bd w (.agg (ds.map .p)) (.agg cs.toList.toArray) := by
   refine .agg _ (by rw [h2', List.length_map, h1]) (fun i c u hc hu => ?_)
   rw [List.getElem?_map] at hc
   cases hd : ds[i]? with
   | none => rw [hd] at hc; simp at hc
   | some d =>
     rw [hd] at hc
     simp at hc
     subst hc
     have hj : i < sh.length := by rw [← h1]; exact (List.getElem?_eq_some_iff.1 hd).1
     exact rcell_came (h3 i sh[i] d u (List.getElem?_eq_getElem hj) hd (by simpa [Value.cells] using hu)).2
  simpa using this
theorem arg_one {n : Nat} {t : TypeId} {c : Sh} {v : Value} {d : DataW H} {p : List MemPlace} (hs : shAt P n t = some [c]) (ht : tagg P t = some false) (hv : Value.okWide P w r base t v) (h : DataW.Trod enc P w 0 spare held t v d p) :
  ∃ d, Fit c d ∧ ∀ ι bd, RAV ι none0 bd w (.one (.p d)) v := by
 have hone : v.cells.toList = [v] := by
  unfold shAt at hs
  cases n with
  | zero => cases hs
  | succ n =>
    simp only at hs
    split at hs
    ·rename_i k hu; obtain ⟨i, rfl⟩ := WideShapes.okWide_int hu hv; rfl
    ·rename_i hu; obtain ⟨i, rfl⟩ := WideShapes.okWide_bool hu hv; rfl
    ·rename_i k hu
     have : ∃ b, v = .float k b := by
      simp only [Value.okWide, hu, Cell.okWide] at hv
      cases v <;> simp_all [Cell.ok]
     obtain ⟨b, rfl⟩ := this; rfl
    ·rename_i hu; obtain ⟨i, rfl⟩ := WideShapes.okWide_string hu hv; rfl
    ·rename_i hu; obtain ⟨a, b, c, rfl⟩ := WideShapes.okWide_slice hu hv; rfl
    ·rename_i hu; unfold tagg at ht; rw [hu] at ht; simp at ht
    ·rename_i hu; unfold tagg at ht; rw [hu] at ht; simp at ht
    ·cases hs
 obtain ⟨fuel, hf⟩ := h
 obtain ⟨ds, h1, h2, h3⟩ := came n t [c] hs _ _ _ hf
 rw [hone] at h3
 match ds, h1 with
 | [d], _ =>
   obtain ⟨k1, k2⟩ := h3 0 c d v rfl rfl rfl
   exact ⟨d, k1, fun ι bd => .one (rcell_came k2)⟩
end
structure Old (w w' : World) : Prop where
 os : w'.os = w.os
 output : w'.output = w.output
 size : w.heap.size ≤ w'.heap.size
 block : ∀ k, k < w.heap.size → w'.heap[k]? = w.heap[k]?
theorem law_calls {P : Program} {f : FuncId} {al : List AV} {w : World} {vs : List Value} (c : ACalls P f al none0 0 0 (fun r h' => r = .one (.p (.v (.bool true))) ∧ h' = none0)) (ha : RAVs id none0 0 w al vs) :
  Calls P f vs.toArray w (fun e w' => e = .returned (.bool true) ∧ Old w w') := by
 refine (c id w vs (fun _ _ => rfl) ⟨fun _ _ e => by (cases e), fun _ _ _ _ e => by cases e⟩ ha).mono fun e w' ⟨v, r, h', ι', he, ⟨hr, _⟩, hp, hv⟩ => ?_
 subst hr
 rw [rav_v_inv hv] at he
 exact ⟨he, hp.keeps.os, hp.keeps.output, hp.keeps.size, fun k hk => hp.keeps.old k (fun _ _ e => by cases e) hk⟩
theorem Old.same {w w' : World} (h : Old w w') {p : MemPlace} (hp : p.block < w.heap.size) : w.sameAt w' p := by
 cases p with
 | cell b o => exact World.cell?_of_block (w := w) (h.block b hp)
 | map b => exact h.block b hp
theorem Old.kept {w w' : World} (h : Old w w') (may : MemPlace → Prop) : w.keptBut w' may := by
 refine ⟨h.os, h.output, fun i hi => ?_⟩
 rw [h.block i hi]
 split <;> simp_all
theorem trodAll_stays {H : Type} {enc : TypeId × Value → H} {P : Program} (hl : laidOutB P = true) {w w' : World} {sp : Nat → Bool} : ∀ {ts : List TypeId} {vs : List Value} {ds : List (DataW H)} {ps : List MemPlace},
  (ts.all fun t => P.readableRec t && decide (t < P.types.size)) = true → DataW.TrodAll enc P w 0 (fun _ => true) true ts vs ds ps → (∀ p ∈ ps, w.sameAt w' p) → (∀ p ∈ ps, sp p.block = true) → DataW.TrodAll enc P w' 0 sp true ts vs ds ps
 | [], _, _, _, _, h, _, _ => by
   obtain ⟨rfl, rfl, rfl⟩ := ChangeShapes.trodAll_nil h
   rfl
 | t :: ts, _, _, _, ht, h, h1, h2 => by
   obtain ⟨v, vs1, d, ds1, a, b, rfl, rfl, rfl, g1, g2⟩ := ChangeShapes.trodAll_cons h
   simp only [List.all_cons, Bool.and_eq_true, decide_eq_true_eq] at ht
   exact ⟨a, b, WideElems.Trod_stays hl ht.1.1 ht.1.2 g1 (fun p hp => h1 p (by simp [hp])) (fun p hp => h2 p (by simp [hp])),
    trodAll_stays hl (by simpa using ht.2) g2 (fun p hp => h1 p (by simp [hp])) (fun p hp => h2 p (by simp [hp])), rfl⟩
theorem law_post {H : Type} {enc : TypeId × Value → H} {P : Program} {f : Func} {s : ChangeSpec} {apart fresh handsOn again : Bool} {w w' : World} {args : Array Value} {ds gs : List (DataW H)} {before : List MemPlace} {tb : TypeId}
  (hl : laidOutB P = true) (hts : (f.params.toList.all fun t => P.readableRec t && decide (t < P.types.size)) = true) (hvars : s.vars = []) (hr : f.resultTypes = #[tb]) (hb : P.underlying tb = some .bool)
  (hW : DataW.Whole enc P f.params.toList s.vars apart w args.toList ds gs before) (hres : (s.fn H (ds ++ gs)).results = [.lit (.bool true)]) (hargs : (s.fn H (ds ++ gs)).args = ds) (hvs : (s.fn H (ds ++ gs)).vars = []) (h : Old w w') :
  s.post enc P f apart fresh handsOn again w args (.bool true) w' := by
 have hW' := hW
 obtain ⟨p, q, hA, hV, rfl, hz, hn⟩ := hW
 rw [hvars] at hV
 have hlt : ∀ x ∈ p ++ q, x.block < w.heap.size := fun x hx => hW'.lt x hx
 have hq : q = [] := by
  cases gs with
  | nil => exact hV
  | cons g gs => exact hV.elim
 subst hq
 have hA2 : ∀ sp : Nat → Bool, (∀ x ∈ p, sp x.block = true) → DataW.TrodAll enc P w' 0 sp true f.params.toList args.toList ds p := fun sp hsp =>
  trodAll_stays hl hts hA (fun x hx => h.same (hlt x (by simp [hx]))) hsp
 have hR : ∀ (b : Nat) (sp : Nat → Bool) (hd : Bool), DataW.TrodAll enc P w' b sp hd f.resultTypes.toList ((Value.bool true).resultList f.resultTypes.size) (s.fn H (ds ++ gs)).results [] := by
  intro b sp hd
  rw [hres, hr]
  exact ChangeShapes.trodAll_mk1 (RowKit.shut_bool hb true)
 have hOK : ∀ (j : Nat) (t : TypeId) (r : Value), f.resultTypes[j]? = some t → ((Value.bool true).resultList f.resultTypes.size)[j]? = some r → Value.okWide P w' .any 0 t r := RowKit.ok_one hr rfl (RowKit.okWide_bool_mk hb true)
 refine ⟨ds, gs, p ++ [], [], p, [], hW', hR _ _ _, by rw [hargs]; exact hA2 _ (fun x hx => by simpa using hlt x (by simp [hx])), by rw [hvars, hvs]; rfl, h.kept _, fun _ => ⟨hOK, .lit (.bool true) :: ds, [], [] ++ p ++ [], ⟨[] ++ p, [], ?_, by rw [hvars]; rfl, rfl, ?_, ?_⟩, ?_⟩⟩
 ·have := ChangeShapes.trodAll_append (hA2 (fun _ => true) (fun _ _ => rfl)) (hR 0 (fun _ => true) true)
  rw [hres] at this
  exact this
 ·intro b off hp
  rw [World.frozen?_of_block (w := w) (h.block b (by have := hlt (.cell b off) (by simpa using hp); exact this))]
  exact hz b off (by simpa using hp)
 ·intro ha
  simpa using hn ha
 ·intro x hx _
  simpa using hx
end Go.Proofs.YtihgnpboabpchaaGreatDoor.Am
namespace Go.Proofs.YtihgnpboabpchaaGreatDoor
set_option linter.unusedSimpArgs false
set_option linter.unusedVariables false
set_option linter.unnecessarySimpa false
open Go Am
namespace Am
theorem AWP.virtO {P : Program} {C : Ctx} {Q : Exit → St → Prop} {c : Code} {t : Nat → AV} {h : Heap} {n : Nat} (id k : Nat) {blk : Blk} (hb : h id = some blk) (hk : blk.cells[k]? = some (.p (.v (.slice none 0 0))))
  (K : AWP P C c Q ⟨t, Am.upd (Am.upd h id ⟨blk.ver, blk.cells.set k (.win (C.b + n) 0 0 0 0)⟩) (C.b + n) ⟨0, []⟩, n + 1⟩) : AWP P C c Q ⟨t, h, n⟩ := by
 refine .weak (fun a w ι I => ⟨ι, ?_⟩) K
 have hbn : ∀ i, C.b + n ≤ i → h i = none := I.bound
 have hidn : id < C.b + n := by
  rcases Nat.lt_or_ge id (C.b + n) with h1 | h1
  ·exact h1
  ·have := hbn id h1; rw [hb] at this; cases this
 have hne : blk.cells ≠ [] := fun h => by rw [h] at hk; simp at hk
 generalize hh2 : Am.upd (Am.upd h id ⟨blk.ver, blk.cells.set k (.win (C.b + n) 0 0 0 0)⟩) (C.b + n) ⟨0, []⟩ = h2
 have hat : ∀ i b', h2 i = some b' → (i = C.b + n ∧ b' = ⟨0, []⟩) ∨ (i = id ∧ b' = ⟨blk.ver, blk.cells.set k (.win (C.b + n) 0 0 0 0)⟩) ∨ (i ≠ id ∧ i < C.b + n ∧ h i = some b') := by
  intro i b' e
  subst hh2
  by_cases h1 : i = C.b + n
  ·subst h1; rw [upd_same] at e; injection e with e; exact .inl ⟨rfl, e.symm⟩
  ·rw [upd_ne _ _ _ _ h1] at e
   by_cases h3 : i = id
   ·subst h3; rw [upd_same] at e; injection e with e; exact .inr (.inl ⟨rfl, e.symm⟩)
   ·rw [upd_ne _ _ _ _ h3] at e
    refine .inr (.inr ⟨h3, ?_, e⟩)
    rcases Nat.lt_or_ge i (C.b + n) with h4 | h4
    ·exact h4
    ·rw [hbn i h4] at e; cases e
 have hat0 : h2 (C.b + n) = some ⟨0, []⟩ := by subst hh2; exact upd_same _ _ _
 have M : Moves ι h (C.b + n) w ι h2 (C.b + (n + 1)) w := by
  refine ⟨by omega, fun b hs _ i b' e ne => ?_, fun _ _ _ => rfl, fun i hi b' e => ?_⟩
  ·rcases hat i b' e with ⟨rfl, rfl⟩ | ⟨rfl, rfl⟩ | ⟨_, _, e⟩
   ·exact absurd rfl ne
   ·exact hs i blk hb hne
   ·exact hs i b' e ne
  ·rcases hat i b' e with ⟨rfl, rfl⟩ | ⟨rfl, rfl⟩ | ⟨_, _, e⟩
   ·omega
   ·exact ⟨blk, hb, Nat.le_refl _, fun _ => rfl⟩
   ·exact ⟨b', e, Nat.le_refl _, fun _ => rfl⟩
 refine ⟨fun i hi b' e => ?_, fun i hi b' e ne => ?_, fun i hi => ?_, ⟨fun i b' e ne => ?_, fun x y bx by' hx hy nx ny hxy => ?_⟩, fun x => (I.tmps x).move M, I.ntmps, I.defers, I.keeps⟩
 ·rcases hat i b' e with ⟨rfl, rfl⟩ | ⟨rfl, rfl⟩ | ⟨_, _, e⟩
  ·omega
  ·obtain ⟨b0, k0, k1, k2⟩ := I.outer i hi blk hb
   refine ⟨b0, k0, k1, ?_⟩
   rcases k2 with ⟨k2, k3⟩ | ⟨k2, k3⟩
   ·exact .inl ⟨by simp [k2], k3⟩
   ·exact .inr ⟨k2, fun _ => k3 hne⟩
  ·exact I.outer i hi b' e
 ·rcases hat i b' e with ⟨rfl, rfl⟩ | ⟨rfl, rfl⟩ | ⟨_, _, e⟩
  ·exact absurd rfl ne
  ·exact I.fresh i hi blk hb hne
  ·exact I.fresh i hi b' e ne
 ·have hi2 : C.b + (n + 1) ≤ i := hi
  show h2 i = none
  cases e : h2 i with
  | none => rfl
  | some b' =>
    rcases hat i b' e with ⟨rfl, rfl⟩ | ⟨rfl, rfl⟩ | ⟨_, h4, e⟩ <;> omega
 ·rcases hat i b' e with ⟨rfl, rfl⟩ | ⟨rfl, rfl⟩ | ⟨_, _, e⟩
  ·exact absurd rfl ne
  ·obtain ⟨c0, ty, g1, g2, g3⟩ := I.heap.blk i blk hb hne
   refine ⟨c0, ty, g1, by rw [g2, List.length_set], fun j d u hd hu => ?_⟩
   rw [List.getElem?_set] at hd
   by_cases hjk : k = j
   ·subst hjk
    have hlt : k < blk.cells.length := (List.getElem?_eq_some_iff.1 hk).1
    rw [if_pos rfl, if_pos hlt] at hd
    injection hd with hd
    subst hd
    have hu2 : u = .slice none 0 0 := by
     have hr := g3 k _ u hk hu
     have := rav_v_inv (.one hr)
     exact this
    subst hu2
    show RCell ι h2 (C.b + (n + 1)) w _ _
    exact .win (by omega) (fun b0 e0 => by rw [hat0] at e0; injection e0 with e0; subst e0; exact Nat.le_refl _) (fun _ _ _ => ⟨Nat.le_refl _, .inr ⟨rfl, rfl, rfl⟩⟩)
   ·rw [if_neg hjk] at hd
    exact (g3 j d u hd hu).move M
  ·obtain ⟨c0, ty, g1, g2, g3⟩ := I.heap.blk i b' e ne
   exact ⟨c0, ty, g1, g2, fun j d u hd hu => (g3 j d u hd hu).move M⟩
 ·have key : ∀ i b', h2 i = some b' → b'.cells ≠ [] → ∃ b0, h i = some b0 ∧ b0.cells ≠ [] := by
   intro i b' e ne
   rcases hat i b' e with ⟨rfl, rfl⟩ | ⟨rfl, rfl⟩ | ⟨_, _, e⟩
   ·exact absurd rfl ne
   ·exact ⟨blk, hb, hne⟩
   ·exact ⟨b', e, ne⟩
  obtain ⟨b1, e1, n1⟩ := key x bx hx nx
  obtain ⟨b2, e2, n2⟩ := key y by' hy ny
  exact I.heap.inj x y b1 b2 e1 e2 n1 n2 hxy
theorem AWP.virtH {P : Program} {C : Ctx} {Q : Exit → St → Prop} {c : Code} {t : Nat → AV} {h : Heap} {n : Nat} (id k : Nat) {blk : Blk} (_hid : C.b ≤ id) (hb : h id = some blk) (hk : blk.cells[k]? = some (.p (.v (.slice none 0 0))))
  (K : AWP P C c Q ⟨t, Am.upd (Am.upd h id ⟨blk.ver, blk.cells.set k (.win (C.b + n) 0 0 0 0)⟩) (C.b + n) ⟨0, []⟩, n + 1⟩) : AWP P C c Q ⟨t, h, n⟩ := AWP.virtO id k hb hk K
theorem Sub.at {a H : Heap} {k : Nat} {x : Blk} (s : Sub a H) (e : a k = some ⟨x.ver, []⟩) : Sub a (Am.upd H k x) :=
 s.upd (fun c hc => by rw [e] at hc; injection hc with hc; subst hc; exact ⟨rfl, rfl⟩)
end Am
set_option linter.unusedSimpArgs false
set_option linter.unusedVariables false
set_option linter.unnecessarySimpa false
open Go Am
namespace Am
def maskOf (acc : List Nat) (es : List Edge) : Nat := es.foldl (fun m e => if Region.binds .any e = true then (m ||| 2 ^ e.on) ||| acc.getD e.on 0 else m) 0
def masks : List Oper → List Nat → List Nat
 | [], acc => acc
 | o :: os, acc => masks os (acc ++ [maskOf acc o.after.toList])
def drawF (S : List Tmp) (ops : Array Oper) (ms : List Nat) : Nat → List Oper → Bool
 | _, [] => true
 | i, o :: os => (o.after.toList.all fun e => !Region.binds .any e || decide (e.on < i)) && ((List.range i).all fun j => match ops[j]? with
   | some x => (ms.getD i 0).testBit j || free2 S ops x o
   | none => true) && drawF S ops ms (i + 1) os
theorem waits_mono {ops : Array Oper} : ∀ {f f' i j : Nat}, f ≤ f' → waits ops f i j = true → waits ops f' i j = true
 | 0, _, _, _, _, h => by cases h
 | f + 1, 0, _, _, hf, _ => by omega
 | f + 1, f' + 1, i, j, hf, h => by
   unfold waits at h ⊢
   cases hi : ops[i]? with
   | none => rw [hi] at h; cases h
   | some o =>
     rw [hi] at h
     simp only at h ⊢
     obtain ⟨e, he, hb⟩ := Array.any_eq_true'.1 h
     refine Array.any_eq_true'.2 ⟨e, he, ?_⟩
     simp only [Bool.and_eq_true, Bool.or_eq_true] at hb ⊢
     exact ⟨hb.1, hb.2.imp id (waits_mono (Nat.le_of_succ_le_succ hf))⟩
theorem maskOf_bit (acc : List Nat) (j : Nat) : ∀ (es : List Edge) (m : Nat), (es.foldl (fun m e => if Region.binds .any e = true then (m ||| 2 ^ e.on) ||| acc.getD e.on 0 else m) m).testBit j = true →
  m.testBit j = true ∨ ∃ e ∈ es, Region.binds .any e = true ∧ (e.on = j ∨ (acc.getD e.on 0).testBit j = true)
 | [], m, h => .inl h
 | e :: es, m, h => by
   rw [List.foldl_cons] at h
   rcases maskOf_bit acc j es _ h with h1 | ⟨e', he, h2⟩
   ·by_cases hb : Region.binds .any e = true
    ·rw [if_pos hb, Nat.testBit_or, Nat.testBit_or, Bool.or_eq_true, Bool.or_eq_true] at h1
     rcases h1 with (h1 | h1) | h1
     ·exact .inl h1
     ·refine .inr ⟨e, by simp, hb, .inl ?_⟩
      rw [Nat.testBit_two_pow] at h1
      simpa using h1
     ·exact .inr ⟨e, by simp, hb, .inr h1⟩
    ·rw [if_neg hb] at h1; exact .inl h1
   ·exact .inr ⟨e', by simp [he], h2⟩
theorem masks_ok (ops : Array Oper) : ∀ (os done : List Oper) (acc : List Nat), ops.toList = done ++ os → acc.length = done.length → (∀ i j, i < acc.length → (acc.getD i 0).testBit j = true → waits ops (i + 1) i j = true) →
  (∀ i o, ops[i]? = some o → ∀ e ∈ o.after, Region.binds .any e = true → e.on < i) → ∀ i j, i < ops.size → ((masks os acc).getD i 0).testBit j = true → waits ops (i + 1) i j = true
 | [], done, acc, h1, h2, h3, _, i, j, hi, h => h3 i j (by
   have : ops.toList.length = done.length := by rw [h1]; simp
   rw [Array.length_toList] at this; omega) h
 | o :: os, done, acc, h1, h2, h3, h4, i, j, hi, h => by
   unfold masks at h
   refine masks_ok ops os (done ++ [o]) _ (by rw [h1]; simp) (by simp [h2]) (fun k q hk hq => ?_) h4 i j hi h
   rw [List.length_append, List.length_singleton] at hk
   by_cases hka : k < acc.length
   ·rw [List.getD_eq_getElem?_getD, List.getElem?_append_left hka, ← List.getD_eq_getElem?_getD] at hq
    exact h3 k q hka hq
   ·have hke : k = acc.length := by omega
    subst hke
    rw [List.getD_eq_getElem?_getD, List.getElem?_append_right (Nat.le_refl _), Nat.sub_self] at hq
    have hq' : (maskOf acc o.after.toList).testBit q = true := hq
    have ho : ops[acc.length]? = some o := by
     rw [← Array.getElem?_toList, h1, h2]; simp
    rcases maskOf_bit acc q _ _ hq' with h0 | ⟨e, he, hb, h5⟩
    ·simp at h0
    ·have hlt := h4 _ _ ho e (by simpa using he) hb
     unfold waits
     rw [ho]
     refine Array.any_eq_true'.2 ⟨e, by simpa using he, ?_⟩
     simp only [Bool.and_eq_true, Bool.or_eq_true, beq_iff_eq]
     refine ⟨hb, h5.imp id fun h6 => ?_⟩
     exact waits_mono (by omega) (h3 e.on q hlt h6)
theorem drawF_spec {S : List Tmp} {ops : Array Oper} {ms : List Nat} : ∀ (os done : List Oper), ops.toList = done ++ os → drawF S ops ms done.length os = true →
  ∀ i o, done.length ≤ i → ops[i]? = some o → (∀ e ∈ o.after, Region.binds .any e = true → e.on < i) ∧ ∀ j x, j < i → ops[j]? = some x → (ms.getD i 0).testBit j = true ∨ free2 S ops x o = true
 | [], done, h1, _, i, o, hi, ho => by
   have := (Array.getElem?_eq_some_iff.1 ho).1
   have h2 : ops.toList.length = done.length := by rw [h1]; simp
   rw [Array.length_toList] at h2
   omega
 | o' :: os, done, h1, h, i, o, hi, ho => by
   unfold drawF at h
   simp only [Bool.and_eq_true] at h
   obtain ⟨⟨h2, h3⟩, h4⟩ := h
   by_cases hid : i = done.length
   ·subst hid
    have : ops[done.length]? = some o' := by rw [← Array.getElem?_toList, h1]; simp
    rw [ho] at this
    injection this with this
    subst this
    refine ⟨fun e he hb => ?_, fun j x hj hx => ?_⟩
    ·have := List.all_eq_true.1 h2 e (by simpa using he)
     rw [hb] at this
     simpa using this
    ·have := List.all_eq_true.1 h3 j (List.mem_range.2 hj)
     rw [hx] at this
     simpa [Bool.or_eq_true] using this
   ·exact drawF_spec os (done ++ [o']) (by rw [h1]; simp) (by rw [List.length_append]; exact h4) i o (by rw [List.length_append, List.length_singleton]; omega) ho
theorem drawF_ok {S : List Tmp} {ops : Array Oper} (h : drawF S ops (masks ops.toList []) 0 ops.toList = true) : drawB S ops = true := by
 have sp := drawF_spec ops.toList [] (by simp) h
 have h4 : ∀ i o, ops[i]? = some o → ∀ e ∈ o.after, Region.binds .any e = true → e.on < i := fun i o ho => (sp i o (Nat.zero_le _) ho).1
 unfold drawB
 refine List.all_eq_true.2 fun i hi => ?_
 have hi' := List.mem_range.1 hi
 cases ho : ops[i]? with
 | none => rfl
 | some o =>
   simp only [Bool.and_eq_true]
   refine ⟨Array.all_eq_true_iff_forall_mem.2 fun e he => ?_, List.all_eq_true.2 fun j hj => ?_⟩
   ·cases hb : Region.binds .any e with
    | false => rfl
    | true => simpa using h4 i o ho e he hb
   ·have hj' := List.mem_range.1 hj
    cases hx : ops[j]? with
    | none => rfl
    | some x =>
      simp only [Bool.or_eq_true]
      refine ((sp i o (Nat.zero_le _) ho).2 j x hj' hx).imp (fun hb => ?_) id
      exact waits_mono (by omega) (masks_ok ops ops.toList [] [] (by simp) rfl (fun _ _ hh => by cases hh) h4 i j hi' hb)
end Am
end Go.Proofs.YtihgnpboabpchaaGreatDoor
namespace Go.Proofs.YtihgnpboabpchaaGreatDoor.Am
set_option linter.unusedSimpArgs false
set_option linter.unusedVariables false
set_option linter.unnecessarySimpa false
open Go
def noCells (o : Obj) : Prop := ∀ c e q, o ≠ .cells c e q
theorem cell_put {w : World} {l : Nat} {o0 o : Obj} (hl : w.heap[l]? = some o0) (h0 : noCells o0) {A : Addr} {v : Value} (h : w.cell? A = some v) : (w.putObj l o).cell? A = some v := by
 have hne : A.block ≠ l := by
  intro e
  subst e
  unfold World.cell? at h
  rw [hl] at h
  cases o0 with
  | cells c e q => exact h0 c e q rfl
  | _ => simp at h
 rw [← h]
 exact cell_same (World.putObj_heap_other hne)
theorem RPD.put {S : Nat → Prop} {w : World} {l : Nat} {o0 o : Obj} (hl : w.heap[l]? = some o0) (h0 : noCells o0) {d : PD} {v : Value} (h : RPD S w d v) : RPD S (w.putObj l o) d v := by
 induction h with
 | v x => exact .v x
 | @sl sz es a cap U hcap hnil hspot hsz hc hr ih =>
   refine .sl a cap U hcap hnil hspot hsz (fun i e he j d hd => ?_) ih
   obtain ⟨A, hA, hs, hcell⟩ := hc i e he j d hd
   exact ⟨A, hA, hs, cell_put hl h0 hcell⟩
 | slc h ih => exact .slc ih
theorem RCell.put {ι : Nat → Nat} {h : Heap} {bd : Nat} {w : World} {l : Nat} {o0 o : Obj} (hl : w.heap[l]? = some o0) (h0 : noCells o0) {c : Cell} {v : Value} (r : RCell ι h bd w c v) : RCell ι h bd (w.putObj l o) c v := by
 induction r with
 | p hd => exact .p (hd.put hl h0)
 | junk v => exact .junk v
 | ptr hid hver hv => exact .ptr hid hver hv
 | ro A U hs hc => exact .ro A U hs (fun j d hd => let ⟨h1, h2, h3⟩ := hc j d hd; ⟨h1, cell_put hl h0 h2, h3.put hl h0⟩)
 | win hid hver hv => exact .win hid hver hv
 | clo F C hF hC h1 h2 ih1 ih2 => exact .clo F C hF hC ih1 ih2
theorem RAV.put {ι : Nat → Nat} {h : Heap} {bd : Nat} {w : World} {l : Nat} {o0 o : Obj} (hl : w.heap[l]? = some o0) (h0 : noCells o0) {c : AV} {v : Value} (r : RAV ι h bd w c v) : RAV ι h bd (w.putObj l o) c v := by
 induction r with
 | one hc => exact .one (hc.put hl h0)
 | agg V hlen hv => exact .agg V hlen (fun i c u hc hu => (hv i c u hc hu).put hl h0)
 | tup V hlen hv ih => exact .tup V hlen ih
theorem HeapOK.put {ι : Nat → Nat} {h : Heap} {bd : Nat} {w : World} {l : Nat} {o0 : Obj} (o : Obj) (hl : w.heap[l]? = some o0) (h0 : noCells o0) (H : HeapOK ι h bd w) : HeapOK ι h bd (w.putObj l o) := by
 refine ⟨fun id b e ne => ?_, H.inj⟩
 obtain ⟨c, ty, h1, h2, h3⟩ := H.blk id b e ne
 refine ⟨c, ty, ?_, h2, fun j d u hd hu => (h3 j d u hd hu).put hl h0⟩
 rw [World.putObj_heap_other (fun e => ?_)]
 ·exact h1
 ·rw [e, hl] at h1
  injection h1 with h1
  exact h0 _ _ _ h1
theorem Keeps.put {ι : Nat → Nat} {h : Heap} {w0 w : World} {l : Nat} (o : Obj) (hC : w0.heap.size ≤ l) (K : Keeps ι h w0 w) : Keeps ι h w0 (w.putObj l o) :=
 ⟨by rw [World.putObj_size]; exact K.size, K.os, K.output, fun b hs hb => by rw [World.putObj_heap_other (by omega)]; exact K.old b hs hb⟩
theorem Inv.putObj {C : Ctx} {ι : Nat → Nat} {s : St} {a : Act} {w : World} {l : Nat} {o0 : Obj} (o : Obj) (hl : w.heap[l]? = some o0) (h0 : noCells o0) (hC : C.w.heap.size ≤ l) (I : Inv C ι s a w) : Inv C ι s a (w.putObj l o) :=
 ⟨I.outer, I.fresh, I.bound, I.heap.put o hl h0, fun t => (I.tmps t).put hl h0, I.ntmps, I.defers, I.keeps.put o hC⟩
theorem agree_alloc {S : Nat → Prop} (w : World) (o : Obj) : AgreeOn S w (w.alloc o) := fun b _ hb => by
 show (w.heap.push o)[b]? = w.heap[b]?
 rw [Array.getElem?_push_lt hb, Array.getElem?_eq_getElem hb]
theorem HeapOK.alloc {ι : Nat → Nat} {h : Heap} {bd : Nat} {w : World} (o : Obj) (H : HeapOK ι h bd w) : HeapOK ι h bd (w.alloc o) := by
 refine ⟨fun id b e ne => ?_, H.inj⟩
 obtain ⟨c, ty, h1, h2, h3⟩ := H.blk id b e ne
 refine ⟨c, ty, ?_, h2, fun j d u hd hu => (h3 j d u hd hu).move (Moves.world (agree_alloc w o))⟩
 have := (Array.getElem?_eq_some_iff.1 h1).1
 show (w.heap.push o)[ι id]? = _
 rw [Array.getElem?_push_lt this, ← h1, Array.getElem?_eq_getElem this]
theorem Inv.alloc {C : Ctx} {ι : Nat → Nat} {s : St} {a : Act} {w : World} (o : Obj) (I : Inv C ι s a w) : Inv C ι s a (w.alloc o) := by
 have hsz : (w.alloc o).heap.size = w.heap.size + 1 := World.size_alloc w o
 refine ⟨I.outer, I.fresh, I.bound, I.heap.alloc o, fun t => (I.tmps t).move (Moves.world (agree_alloc w o)), I.ntmps, I.defers, ⟨by have := I.keeps.size; omega, I.keeps.os, I.keeps.output, fun b hs hb => ?_⟩⟩
 rw [← I.keeps.old b hs hb]
 exact agree_alloc (S := fun _ => True) w o b trivial (Nat.lt_of_lt_of_le hb I.keeps.size)
theorem putObj_putObj (w : World) (l : Nat) (x y : Obj) : (w.putObj l x).putObj l y = w.putObj l y := by
 unfold World.putObj
 simp
theorem Inv.start {N b : Nat} {ι : Nat → Nat} {h : Heap} {w : World} {x : Xt} {t : Nat → AV} {tm : Array Value} (hn : ∀ id, b ≤ id → h id = none) (H : HeapOK ι h b w) (hN : tm.size = N) (ht : ∀ i, RAV ι h b w (t i) (tm.getD i undef)) :
  Inv ⟨N, b, ι, h, w, x⟩ ι ⟨t, h, 0⟩ { tmps := tm, defers := x.D } w := by
 refine ⟨fun id _ b' e => ⟨b', e, .refl _ _ _⟩, fun id hid b' e hne => ?_, fun id hid => hn id (by simpa using hid), by simpa using H, fun i => by simpa using ht i, hN, rfl, .refl _ _ _⟩
 have e1 : h id = some b' := e
 rw [hn id hid] at e1; cases e1
theorem stab_rec {ι : Nat → Nat} {h : Heap} {bd : Nat} {w : World} {l : Nat} {o : Obj} (H : HeapOK ι h bd w) (hl : w.heap[l]? = some o) (h0 : noCells o) : stab ι h l := by
 intro id blk e ne he
 obtain ⟨c, ty, h1, _⟩ := H.blk id blk e ne
 rw [he, hl] at h1
 injection h1 with h1
 exact h0 _ _ _ h1
theorem noCells_loop (r : Loop) : noCells (.loop r) := fun _ _ _ e => by cases e
theorem round_of {P : Program} {l f N b : Nat} {r : Loop} {ι : Nat → Nat} {h : Heap} {w : World} {t : Nat → AV} {tm : Array Value} {d p : Tmp} {rid : Nat} {ty : TypeId} {pos : String} {after : Array Edge} {body : Code} {Q3 : Exit → St → Prop}
  (hl : w.heap[l]? = some (.loop r)) (hst : r.state = .ready) (hpe : r.pending = none) (hn : ∀ id, b ≤ id → h id = none) (H : HeapOK ι h b w) (hN : tm.size = N) (ht : ∀ i, RAV ι h b w (t i) (tm.getD i undef)) (hd : d < N)
  (hbody : ∀ w1, HeapOK ι h b w1 → AWP P ⟨N, b, ι, h, w1, ⟨[], some l, fun _ _ => False⟩⟩ body Q3 ⟨updT t d (t p), h, 0⟩) (hQ : ∀ e s, Q3 e s → e = .normal ∨ e = .ret) :
  RoundIn Fence.wide 0 P l f tm (.region rid #[⟨some d, .assign (.tmp p), ty, pos, after, none⟩] false) body w
   (fun e w' => ∃ v s' ι', e = .returned (.bool v) ∧ Q3 (if v = true then .normal else .ret) s' ∧ Post ι h b w s'.n ι' s'.h (w'.putObj l (.loop r)) ∧
    w'.heap[l]? = some (.loop { r with state := if v = true then .ready else .done, pending := if v = true then none else some .ret })) := by
 refine roundIn_of_wpIn trivial ?_
 refine wpIn_region_list (wpListIn_plain rfl (fun K hK => BigFrame.wpIn_assign (.tmp p) rfl (hK _ _ (wpListIn_nil ?_))))
 refine ⟨_, run_beginRound hl hst, ?_⟩
 have hlt : l < w.heap.size := (Array.getElem?_eq_some_iff.1 hl).1
 obtain ⟨w2, hw2⟩ : ∃ w2, w.putObj l (.loop { r with state := .busy }) = w2 := ⟨_, rfl⟩
 have hl2 : w2.heap[l]? = some (.loop { r with state := .busy }) := by rw [← hw2]; exact World.putObj_heap_same hlt
 have H2 : HeapOK ι h b w2 := by rw [← hw2]; exact H.put _ hl (noCells_loop _)
 rw [hw2]
 have hsz : w2.heap.size = w.heap.size := by rw [← hw2]; exact World.putObj_size
 have I0 : Inv ⟨N, b, ι, h, w2, ⟨[], some l, fun _ _ => False⟩⟩ ι ⟨updT t d (t p), h, 0⟩ (Act.put { tmps := tm, defers := [] } (some d) (Act.eval { tmps := tm, defers := [] } (.tmp p))) w2 := by
  have I00 : Inv ⟨N, b, ι, h, w2, ⟨[], some l, fun _ _ => False⟩⟩ ι ⟨t, h, 0⟩ { tmps := tm, defers := [] } w2 :=
   Inv.start hn H2 hN (fun i => by have := (ht i).put (o := .loop { r with state := .busy }) hl (noCells_loop _); rw [hw2] at this; exact this)
  exact Inv.put I00 (show dstOK N (some d) from hd) (I00.tmps p)
 refine wpIn_mono (hbody w2 H2 _ w2 ι I0) ?_
 rintro e a' w' (⟨s', ι', q, I'⟩ | ⟨_, he⟩)
 case inr => exact he.elim
 have hstab := stab_rec H2 hl2 (noCells_loop _)
 have hl' : w'.heap[l]? = some (.loop { r with state := .busy }) := by rw [I'.keeps.old l hstab (by rw [hsz]; exact hlt)]; exact hl2
 have hlt' : l < w'.heap.size := (Array.getElem?_eq_some_iff.1 hl').1
 have hpost : ∀ o : Obj, Post ι h b w s'.n ι' s'.h ((w'.putObj l o).putObj l (.loop r)) := fun o => by
  rw [putObj_putObj]
  have ks := I'.keeps.size
  refine ⟨fun id hid b' e => ?_, fun id hid b' e ne => ?_, I'.bound, I'.heap.put _ hl' (noCells_loop _), ⟨?_, ?_, ?_, fun x hs hx => ?_⟩⟩
  ·obtain ⟨b0, e0, g⟩ := I'.outer id hid b' e
   rw [show (⟨N, b, ι, h, w2, ⟨[], some l, fun _ _ => False⟩⟩ : Ctx).w.heap.size = w.heap.size from hsz] at g
   exact ⟨b0, e0, g⟩
  ·have := I'.fresh id hid b' e ne
   rw [show (⟨N, b, ι, h, w2, ⟨[], some l, fun _ _ => False⟩⟩ : Ctx).w.heap.size = w.heap.size from hsz] at this
   exact this
  ·rw [World.putObj_size]; rw [show (⟨N, b, ι, h, w2, ⟨[], some l, fun _ _ => False⟩⟩ : Ctx).w.heap.size = w.heap.size from hsz] at ks; exact ks
  ·have := I'.keeps.os; rw [← hw2] at this; exact this
  ·have := I'.keeps.output; rw [← hw2] at this; exact this
  ·by_cases hxl : x = l
   ·subst hxl; rw [World.putObj_heap_same hlt', hl]
   ·rw [World.putObj_heap_other hxl, I'.keeps.old x hs (by rw [hsz]; exact hx)]
    show w2.heap[x]? = _
    rw [← hw2, World.putObj_heap_other hxl]
 rcases hQ e s' q with rfl | rfl
 ·exact ⟨_, _, run_endRound none hl', true, s', ι', rfl, q, hpost _, by rw [World.putObj_heap_same hlt']; rfl⟩
 ·exact ⟨_, _, run_endRound (some .ret) hl', false, s', ι', rfl, q, hpost _, by rw [World.putObj_heap_same hlt']; rfl⟩
theorem run_yield_op {P : Program} {w : World} {ρ : Operand → Value} {o : Oper} {f : Operand} {xs : Array Operand} {tys : Array TypeId} {l : Nat} {r : Loop} (ho : o.op = .call ⟨.value f, xs, tys⟩) (hf : ρ f = .func (.yield l) #[] #[])
  (hl : w.heap[l]? = some (.loop r)) (hs : xs.size = r.params.size) :
  (execOp ρ o).run P w = .ok (.round l r.fn ((r.params.zip (xs.map ρ)).foldl (fun tmps (t, a) => tmps.setIfInBounds t a) r.tmps) r.assign r.body) w := by
 unfold execOp
 rw [ho]
 have := run_yield (P := P) (args := xs.map ρ) hl (by simpa using hs)
 simp only [resolve, Deferred.ofValue, hf, Sem.run_bind, Sem.run_pure, Result.andThen, invoke]
 rw [← this]
 congr 2
 simp
theorem put_same {a : Act} {d : Tmp} {v : Value} (h : d < a.tmps.size) : (a.put (some d) v).eval (.tmp d) = v := by
 simp [Act.put, Act.eval, h]
theorem put_defers (a : Act) (d : Option Tmp) (v : Value) : (a.put d v).defers = a.defers := by
 cases d <;> rfl
theorem put_size (a : Act) (d : Option Tmp) (v : Value) : (a.put d v).tmps.size = a.tmps.size := by
 cases d <;> simp [Act.put]
theorem run_not {P : Program} {w : World} {ρ : Operand → Value} {o : Oper} {ty : TypeId} {x : Operand} {b : Bool} (ho : o.op = .unOp .not ty x) (hx : ρ x = .bool b) : (execOp ρ o).run P w = .ok (.value (.bool (!b))) w := by
 unfold execOp
 rw [ho]
 simp only [hx, Sem.run_bind, Sem.run_pure, Result.andThen]
 rfl
def Rnd (P : Program) (C : Ctx) (l : Nat) (r0 : Loop) (pp : Tmp) (p : ByteArray) (s : St) (HS : Heap → Prop) (EX : World → Prop) : Prop :=
 ∀ a w ι, Inv C ι s a w → w.heap[l]? = some (.loop r0) ∧ r0.params = #[pp] ∧
   RoundIn Fence.wide 0 P l r0.fn (r0.tmps.setIfInBounds pp (.string p)) r0.assign r0.body w (fun e w' => ∃ v, e = .returned (.bool v) ∧ (v = true → ∃ h' ι', HS h' ∧ Post ι s.h (C.b + s.n) w 0 ι' h' w') ∧ (v = false → EX w'))
theorem yield_wp {P : Program} {C : Ctx} {s : St} {l : Nat} {r0 : Loop} {pp : Tmp} {p : ByteArray} {HS : Heap → Prop} {EX : World → Prop} {o : Oper} {f x : Operand} {tys : Array TypeId} {K : Act → World → Prop} {Q : Exit → Act → World → Prop}
  (hr : C.x.rd = none) (ho : o.op = .call ⟨.value f, #[x], tys⟩) (hf : val s.t f = .one (.p (.v (.func (.yield l) #[] #[])))) (hx : val s.t x = .one (.p (.v (.string p)))) (hR : Rnd P C l r0 pp p s HS EX) (hd : dstOK C.N o.dst)
  {a : Act} {w : World} {ι : Nat → Nat} (I : Inv C ι s a w)
  (hT : ∀ h' ι' a' w', HS h' → Inv C ι' ⟨putT s.t o.dst (.one (.p (.v (.bool true)))), h', s.n⟩ a' w' → K a' w') (hF : ∀ w', EX w' → K (a.put o.dst (.bool false)) w') : o.wpIn C.F 0 P a w K Q := by
 refine ⟨fun f _ => C.F_fn f, ?_⟩
 obtain ⟨h1, h2, h3⟩ := hR a w ι I
 have e1 := val_ok I f
 rw [hf] at e1
 have e2 := val_ok I x
 rw [hx] at e2
 rw [Oper.semAt_eq _ _ _ (by rw [ho]; simp), run_yield_op ho (rav_v_inv e1) h1 (by rw [h2]; rfl)]
 refine ⟨fun hh => (by cases hh), ?_⟩
 rw [Ctx.F_wide hr]
 have e3 : (r0.params.zip (#[x].map a.eval)).foldl (fun tmps (t, a) => tmps.setIfInBounds t a) r0.tmps = r0.tmps.setIfInBounds pp (.string p) := by
  rw [h2, List.map_toArray, List.map_cons, List.map_nil, rav_v_inv e2]
  have : (#[pp].zip #[Value.string p]) = #[(pp, .string p)] := by simp
  rw [this]
  simp
 rw [e3]
 refine h3.mono ?_
 rintro e w' ⟨v, rfl, ht, hfa⟩
 cases v with
 | true =>
   obtain ⟨h', ι', hs, hp⟩ := ht rfl
   exact hT h' ι' _ w' hs (Inv.put (Post.inv I hp) hd (rav_v _))
 | false => exact hF w' (hfa rfl)
theorem AWP.seqYield {P : Program} {C : Ctx} {Q : Exit → St → Prop} {s : St} {l : Nat} {r0 : Loop} {pp : Tmp} {p : ByteArray} {HS : Heap → Prop} {EX : World → Prop} {rid d1 d2 d3 d4 : Nat} {x1 x2 : Operand} {t1 t2 t3 t4 t5 : TypeId} {p1 p2 p3 p4 : String} {a1 a2 a3 a4 : Array Edge} {tys : Array TypeId}
  (hr : C.x.rd = none) (hD : C.x.D = []) (hd : d1 < C.N ∧ d2 < C.N ∧ d3 < C.N ∧ d4 < C.N) (hne : d1 ≠ d2)
  (h1 : val s.t x1 = .one (.p (.v (.func (.yield l) #[] #[])))) (h2 : val (updT s.t d1 (.one (.p (.v (.func (.yield l) #[] #[]))))) x2 = .one (.p (.v (.string p))))
  (hR : ∀ t, Rnd P C l r0 pp p ⟨t, s.h, s.n⟩ HS EX) (hE : ∀ a' w', a'.defers = [] → EX w' → C.x.E a' w')
  (k : ∀ h', HS h' → Q .normal ⟨updT (updT (updT (updT s.t d1 (.one (.p (.v (.func (.yield l) #[] #[]))))) d2 (.one (.p (.v (.string p))))) d3 (.one (.p (.v (.bool true))))) d4 (.one (.p (.v (.bool false)))), h', s.n⟩) :
  AWP P C (.seq (.region rid #[⟨some d1, .move x1, t1, p1, a1, none⟩, ⟨some d2, .move x2, t2, p2, a2, none⟩, ⟨some d3, .call ⟨.value (.tmp d1), #[.tmp d2], tys⟩, t3, p3, a3, none⟩, ⟨some d4, .unOp .not t5 (.tmp d3), t4, p4, a4, none⟩] false) (.cond (.tmp d4) .ret .skip)) Q s := by
 intro a w ι I
 have b1 := val_ok I x1
 rw [h1] at b1
 have I1 : Inv C ι ⟨putT s.t (some d1) _, s.h, s.n⟩ (a.put (some d1) (a.eval x1)) w := Inv.put I (show dstOK C.N (some d1) from hd.1) b1
 have b2 := val_ok I1 x2
 rw [show val (⟨putT s.t (some d1) (.one (.p (.v (.func (.yield l) #[] #[])))), s.h, s.n⟩ : St).t x2 = .one (.p (.v (.string p))) from h2] at b2
 have I2 := Inv.put I1 (show dstOK C.N (some d2) from hd.2.1) b2
 refine wpIn_seq (wpIn_region_list (wpListIn_plain rfl (fun K hK => BigFrame.wpIn_move x1 rfl (hK _ _ (wpListIn_plain rfl (fun K2 hK2 => BigFrame.wpIn_move x2 rfl (hK2 _ _ (wpListIn_plain rfl (fun K3 hK3 => ?_)))))))))
 have hsz : ((a.put (some d1) (a.eval x1)).put (some d2) ((a.put (some d1) (a.eval x1)).eval x2)).tmps.size = C.N := by rw [put_size, put_size, I.ntmps]
 refine yield_wp (l := l) (r0 := r0) (pp := pp) (p := p) (HS := HS) (EX := EX) hr rfl ?_ ?_ (hR _) (show dstOK C.N (some d3) from hd.2.2.1) I2 (fun h' ι' a' w' hs I3 => hK3 _ _ ?_) (fun w' ex => hK3 _ _ ?_)
 ·show updT (updT s.t d1 _) d2 _ d1 = _
  rw [updT_ne _ _ _ _ hne, updT_same]
 ·show updT (updT s.t d1 _) d2 _ d2 = _
  rw [updT_same]
 ·refine wpListIn_plain rfl (fun K4 hK4 => ⟨fun f _ => C.F_fn f, ?_⟩)
  have e3 : a'.eval (.tmp d3) = .bool true := by
   have := val_ok I3 (.tmp d3)
   rw [show val _ (.tmp d3) = updT _ d3 _ d3 from rfl, updT_same] at this
   exact rav_v_inv this
  rw [Oper.semAt_eq _ _ _ (by simp), run_not rfl e3]
  refine hK4 _ _ (wpListIn_nil ?_)
  have I4 := Inv.put I3 (show dstOK C.N (some d4) from hd.2.2.2) (rav_v (.bool (!true)))
  refine wpIn_cond_false (by
   have := val_ok I4 (.tmp d4)
   rw [show val _ (.tmp d4) = updT _ d4 _ d4 from rfl, updT_same] at this
   exact rav_v_inv this) (wpIn_skip (.inl ⟨_, ι', k h' hs, I4⟩))
 ·refine wpListIn_plain rfl (fun K4 hK4 => ⟨fun f _ => C.F_fn f, ?_⟩)
  rw [Oper.semAt_eq _ _ _ (by simp), run_not rfl (put_same (by rw [hsz]; exact hd.2.2.1))]
  refine hK4 _ _ (wpListIn_nil ?_)
  refine wpIn_cond_true (put_same (by rw [put_size, hsz]; exact hd.2.2.2)) (wpIn_ret (.inr ⟨rfl, hE _ _ ?_ ex⟩))
  rw [put_defers, put_defers, put_defers, put_defers, I.defers, hD]
def EM (P : Program) (fn : Func) (m : Nat) (R : AV → Heap → Prop) (ι : Nat → Nat) (h : Heap) (b : Nat) (w : World) (a' : Act) (w' : World) : Prop :=
 LeavesInM Fence.wide 0 P fn a'.tmps (fun e w'' => ∃ v r h' ι', e = .returned v ∧ R r h' ∧ Post ι h b w m ι' h' w'' ∧ RAV ι' h' (b + m) w'' r v) a'.defers .returning w'
theorem ACalls.enterM {P : Program} {f : FuncId} {fn : Func} {c : Code} {args : List AV} {h : Heap} {b m : Nat} {R : AV → Heap → Prop}
  (hf : P.funcs[f]? = some fn) (hb : fn.body = some c) (hn : args.length ≤ fn.ntmps)
  (hw : ∀ (ι : Nat → Nat) (w : World), (∀ id, b ≤ id → h id = none) → HeapOK ι h b w → AWP P ⟨fn.ntmps, b, ι, h, w, ⟨[], none, EM P fn m R ι h b w⟩⟩ c (bodyQ P ⟨fn.ntmps, b, ι, h, w, ⟨[], none, EM P fn m R ι h b w⟩⟩ fn m R) ⟨argsT args, h, 0⟩) : ACalls P f args h b m R := by
 intro ι w vs hbd hh ha
 refine callsIn_wide.1 (callsIn_of_wp_marks (n := 0) hf hb trivial ?_)
 have I : Inv ⟨fn.ntmps, b, ι, h, w, ⟨[], none, EM P fn m R ι h b w⟩⟩ ι ⟨argsT args, h, 0⟩ { tmps := vs.toArray ++ Array.replicate (fn.ntmps - vs.toArray.size) undef, defers := [] } w := by
  refine ⟨fun id _ b' e => ⟨b', e, .refl _ _ _⟩, fun id hid b' e hne => ?_, fun id hid => hbd id (by simpa using hid), by simpa using hh, fun t => ?_, ?_, rfl, .refl _ _ _⟩
  ·have e1 : h id = some b' := e
   rw [hbd id hid] at e1; cases e1
  ·show RAV ι h (b + 0) w (argsT args t) _
   obtain ⟨hl, hv⟩ := ha
   rcases Nat.lt_or_ge t args.length with hlt | hge
   ·have e1 : args[t]? = some (args[t]) := List.getElem?_eq_getElem hlt
    have e2 : vs[t]? = some (vs[t]'(hl ▸ hlt)) := List.getElem?_eq_getElem (hl ▸ hlt)
    have := hv t _ _ e1 e2
    have e3 : argsT args t = args[t] := by simp [argsT, List.getD, e1]
    have e4 : (vs.toArray ++ Array.replicate (fn.ntmps - vs.toArray.size) undef).getD t undef = vs[t]'(hl ▸ hlt) := by
     simp [Array.getD, hl, hlt]
     omega
    rw [e3, e4]
    exact this
   ·have e3 : argsT args t = .one .junk := by simp [argsT, List.getD, List.getElem?_eq_none hge]
    rw [e3]
    exact .one (.junk _)
  ·have hl := ha.1
   simp; omega
 refine wpIn_mono (hw ι w hbd hh _ w ι I) ?_
 rintro e a' w' (⟨s', ι', q, I'⟩ | ⟨rfl, he⟩)
 ·cases e <;> first | exact q.elim | skip
  all_goals
   obtain ⟨v, r, h', ι2, hr, hR, hp, hv⟩ := q a' w' ι' I'
   show LeavesInM _ _ _ _ _ _ a'.defers _ _
   rw [I'.defers]
   exact ⟨v, hr, v, r, h', ι2, rfl, hR, hp, hv⟩
 ·exact he
theorem leave_mark {P : Program} {C : Ctx} {fn : Func} {m : Nat} {R : AV → Heap → Prop} {ι' : Nat → Nat} {t' : Nat → AV} {h' : Heap} {n' D : Nat} {a0 a' : Act} {w5 : World} (I : Inv C ι' ⟨t', h', n'⟩ a0 w5) (htm : a0.tmps = a'.tmps)
  (hdf : a'.defers = [{ target := .collected D, args := #[] }]) (hD : w5.heap[D]? = some (.deferred (some []))) (hC : C.w.heap.size ≤ D) (hE : Ends P C fn m R ⟨t', h', n'⟩) : EM P fn m R C.ι C.h C.b C.w a' w5 := by
 unfold EM
 rw [hdf]
 refine ⟨by simp, .inl ⟨D, _, rfl, run_takeDeferred hD, ?_⟩⟩
 obtain ⟨v, r, h2, ι2, hr, hR, hp, hv⟩ := hE a0 _ ι' (I.putObj (.deferred none) hD (fun _ _ _ e => by cases e) hC)
 rw [htm] at hr
 exact ⟨v, hr, v, r, h2, ι2, rfl, hR, hp, hv⟩
def afterR (P : Program) (C : Ctx) (rest : Code) (Q : Exit → St → Prop) : Exit → Act → World → Prop
 | .normal, a, w => rest.wpIn C.F 0 P (PostQ C Q) a w
 | .ret, a, w => PostQ C Q .ret a w
 | _, _, _ => False
structure RangeOK (P : Program) (C : Ctx) (fn : Func) (m : Nat) (R : AV → Heap → Prop) (g : Operand) (ps : Array Tmp) (assign body rest : Code) (Hdone Hstop : Heap → Prop) (gf : FuncId) (caps : List Cell) (s : St) : Prop where
 hg : val s.t g = .one (.clo (.func gf) [] caps)
 hb : bodyB P gf = true
 iter : ∀ (fnid D l : Nat) (w2 : World) (ι : Nat → Nat) (a : Act) (vs : List Value), Inv C ι s a w2 → RAVs ι s.h (C.b + s.n) w2 (caps.map .one) vs → w2.heap[l]? = some (.loop ⟨.ready, none, fnid, a.tmps, ps, assign, body, D⟩) →
   CallsIn Fence.wide 0 P gf (#[.func (.yield l) #[] #[]] ++ vs.toArray) w2 (fun e w3 => ∃ v, e = .returned v ∧
    ((∃ h' ι', Hdone h' ∧ Post ι s.h (C.b + s.n) w2 0 ι' h' w3 ∧ w3.heap[l]? = some (.loop ⟨.ready, none, fnid, a.tmps, ps, assign, body, D⟩)) ∨
     (∃ h' ι', Hstop h' ∧ Post ι s.h (C.b + s.n) w2 0 ι' h' (w3.putObj l (.loop ⟨.ready, none, fnid, a.tmps, ps, assign, body, D⟩)) ∧ w3.heap[l]? = some (.loop ⟨.done, some .ret, fnid, a.tmps, ps, assign, body, D⟩))))
 hdone : ∀ (D : Nat) (h' : Heap) (ι' : Nat → Nat) (w4 : World), Hdone h' → (∀ id, C.b + s.n ≤ id → h' id = none) → HeapOK ι' h' (C.b + s.n) w4 →
   AWP P ⟨C.N, C.b + s.n, ι', h', w4, ⟨[{ target := .collected D, args := #[] }], none, fun _ _ => False⟩⟩ rest (fun e s' => e = .ret ∧ Ends P C fn m R ⟨s'.t, s'.h, s.n + s'.n⟩) ⟨s.t, h', 0⟩
 hstop : ∀ h', Hstop h' → Ends P C fn m R ⟨s.t, h', s.n⟩
theorem rangeFunc_wp {P : Program} {C : Ctx} {Q : Exit → St → Prop} {s : St} {fn : Func} {m : Nat} {R : AV → Heap → Prop} {g : Operand} {ps : Array Tmp} {assign body rest : Code} {gf : FuncId} {caps : List Cell} {Hdone Hstop : Heap → Prop}
  (hx : C.x = ⟨[], none, EM P fn m R C.ι C.h C.b C.w⟩) (ok : RangeOK P C fn m R g ps assign body rest Hdone Hstop gf caps s) {a : Act} {w : World} {ι : Nat → Nat} (I : Inv C ι s a w) :
  (Code.rangeFunc g ps assign body).wpIn C.F 0 P (afterR P C rest Q) a w := by
 obtain ⟨hg, hb, iter, hdone, hstop⟩ := ok
 have hF : C.F = Fence.wide := Ctx.F_wide (by rw [hx])
 have hdf : a.defers = [] := by rw [I.defers, hx]
 refine wpIn_rangeFunc (fun fnid _ => ?_)
 have hro : C.F.round = none := by rw [hF]; rfl
 rw [hro]
 obtain ⟨w2, hw2⟩ : ∃ w2, (w.alloc (.deferred (some []))).alloc (.loop ⟨.ready, none, fnid, a.tmps, ps, assign, body, w.heap.size⟩) = w2 := ⟨_, rfl⟩
 have hsz1 : (w.alloc (.deferred (some []))).heap.size = w.heap.size + 1 := World.size_alloc _ _
 have hsz2 : w2.heap.size = w.heap.size + 2 := by rw [← hw2, World.size_alloc, hsz1]
 have hl2 : w2.heap[w.heap.size + 1]? = some (.loop ⟨.ready, none, fnid, a.tmps, ps, assign, body, w.heap.size⟩) := by
  rw [← hw2, ← hsz1]; exact World.alloc_heap_new _ _
 have hD2 : w2.heap[w.heap.size]? = some (.deferred (some [])) := by
  rw [← hw2, agree_alloc (S := fun _ => True) _ _ _ trivial (by rw [hsz1]; omega)]; exact World.alloc_heap_new w _
 have I2 : Inv C ι s a w2 := by rw [← hw2]; exact (I.alloc _).alloc _
 have rf := val_ok I2 g
 rw [hg] at rf
 obtain ⟨D, hX, r3⟩ : ∃ D : List Value, a.eval g = .func (.func gf) #[] D.toArray ∧ RAVs ι s.h (C.b + s.n) w2 (caps.map .one) D := by
  revert rf
  generalize a.eval g = X
  intro rf
  cases rf with
  | one hc => cases hc with
    | clo F D hF hD h1 h2 =>
      have : F = [] := List.eq_nil_of_length_eq_zero (by rw [hF]; rfl)
      subst this
      exact ⟨D, rfl, ravs_cells hD h2⟩
 have hcw : C.w.heap.size ≤ w.heap.size := I.keeps.size
 have hres : (resolve a.eval (rangeCall g (w.heap.size + 1)) 0).run P w2 = .ok ⟨.fn (.func gf) D.toArray, #[.func (.yield (w.heap.size + 1)) #[] #[]]⟩ w2 := by
  simp only [resolve, rangeCall, Deferred.ofValue, hX, Sem.run_pure]
  congr 2
  apply Array.ext'
  simp [Act.eval]
 have hinv : (invoke (.fn (.func gf) D.toArray) #[.func (.yield (w.heap.size + 1)) #[] #[]]).run P w2 = .ok (.enter gf (#[.func (.yield (w.heap.size + 1)) #[] #[]] ++ D.toArray)) w2 := by
  simp only [invoke, callFunc_run hb]
 refine ⟨w.heap.size + 1, [{ target := .collected w.heap.size, args := #[] }], w2, _, w2, gf, _, w2, by rw [run_enterLoop_outer, hw2], hres, fun f' _ => C.F_fn f', hinv, fun hh => (by rw [hF] at hh; cases hh), ?_⟩
 rw [hF]
 refine (CallsIn.mono (iter fnid w.heap.size (w.heap.size + 1) w2 ι a D I2 r3 hl2) ?_)
 rintro e w3 ⟨v, rfl, hh⟩
 have hn0 : noCells (.loop ⟨.ready, none, fnid, a.tmps, ps, assign, body, w.heap.size⟩) := noCells_loop _
 have hstabD : stab ι s.h w.heap.size := stab_rec I2.heap hD2 (fun _ _ _ e => by cases e)
 have hne : w.heap.size ≠ w.heap.size + 1 := by omega
 rcases hh with ⟨h', ι', hd, hp, hl3⟩ | ⟨h', ι', hs, hp, hl3⟩
 ·refine ⟨_, _, run_endLoop hl3 (by simp), ?_⟩
  have I3 := (Post.inv I2 hp).putObj (.loop { ({ state := .ready, pending := none, fn := fnid, tmps := a.tmps, params := ps, assign := assign, body := body, defers := w.heap.size } : Loop) with state := .exhausted }) hl3 (noCells_loop _) (Nat.le_succ_of_le hcw)
  obtain ⟨w4, hw4⟩ : ∃ w4, w3.putObj (w.heap.size + 1) (.loop { ({ state := .ready, pending := none, fn := fnid, tmps := a.tmps, params := ps, assign := assign, body := body, defers := w.heap.size } : Loop) with state := .exhausted }) = w4 := ⟨_, rfl⟩
  rw [hw4] at I3
  show rest.wpIn C.F 0 P (PostQ C Q) _ _
  rw [hF]
  have hD4 : w4.heap[w.heap.size]? = some (.deferred (some [])) := by
   rw [← hw4, World.putObj_heap_other hne, hp.keeps.old _ hstabD (by rw [hsz2]; omega)]; exact hD2
  have hb4 : ∀ id, C.b + s.n ≤ id → h' id = none := fun id hid => hp.bound id hid
  have H4 : HeapOK ι' h' (C.b + s.n) w4 := I3.heap
  have I4 : Inv ⟨C.N, C.b + s.n, ι', h', w4, ⟨[{ target := .collected w.heap.size, args := #[] }], none, fun _ _ => False⟩⟩ ι' ⟨s.t, h', 0⟩ { tmps := a.tmps, defers := [{ target := .collected w.heap.size, args := #[] }] } w4 :=
   Inv.start hb4 H4 I.ntmps (fun i => I3.tmps i)
  have := hdone w.heap.size h' ι' w4 hd hb4 H4 _ w4 ι' I4
  rw [hw4, hdf]
  refine wpIn_mono this ?_
  rintro e a' w5 (⟨s', ι2, ⟨rfl, hE⟩, I5⟩ | ⟨_, he⟩)
  case inr => exact he.elim
  refine .inr ⟨rfl, ?_⟩
  rw [hx]
  have hp5 : Post ι' h' (C.b + s.n) w4 s'.n ι2 s'.h w5 := ⟨I5.outer, I5.fresh, I5.bound, I5.heap, I5.keeps⟩
  have I6 := Post.inv I3 hp5
  have I7 : Inv C ι2 ⟨s'.t, s'.h, s.n + s'.n⟩ { tmps := a'.tmps, defers := [] } w5 :=
   ⟨I6.outer, I6.fresh, I6.bound, I6.heap, fun i => by have := I5.tmps i; rw [← Nat.add_assoc]; exact this, I5.ntmps, by rw [hx], I6.keeps⟩
  refine leave_mark I7 rfl I5.defers ?_ hcw hE
  rw [I5.keeps.old w.heap.size (stab_rec H4 hD4 (fun _ _ _ e => by cases e)) (Array.getElem?_eq_some_iff.1 hD4).1]
  exact hD4
 ·refine ⟨_, _, run_endLoop hl3 (by simp), ?_⟩
  have hlt3 : w.heap.size + 1 < w3.heap.size := (Array.getElem?_eq_some_iff.1 hl3).1
  have I3 := (Post.inv I2 hp).putObj (.loop { ({ state := .done, pending := some .ret, fn := fnid, tmps := a.tmps, params := ps, assign := assign, body := body, defers := w.heap.size } : Loop) with state := .exhausted }) (World.putObj_heap_same hlt3) (noCells_loop _) (Nat.le_succ_of_le hcw)
  rw [putObj_putObj] at I3
  obtain ⟨w4, hw4⟩ : ∃ w4, w3.putObj (w.heap.size + 1) (.loop { ({ state := .done, pending := some .ret, fn := fnid, tmps := a.tmps, params := ps, assign := assign, body := body, defers := w.heap.size } : Loop) with state := .exhausted }) = w4 := ⟨_, rfl⟩
  rw [hw4] at I3
  show Code.wpIn Fence.wide 0 P .ret _ _ _
  rw [hw4, hdf]
  refine wpIn_ret ?_
  show PostQ C Q .ret _ _
  refine .inr ⟨rfl, ?_⟩
  rw [hx]
  have I7 : Inv C ι' ⟨s.t, h', s.n⟩ { tmps := a.tmps, defers := [] } w4 :=
   ⟨I3.outer, I3.fresh, I3.bound, I3.heap, I3.tmps, I.ntmps, by rw [hx], I3.keeps⟩
  refine leave_mark I7 rfl rfl ?_ hcw (hstop h' hs)
  rw [← hw4, World.putObj_heap_other hne]
  have := hp.keeps.old _ hstabD (by rw [hsz2]; omega)
  rw [World.putObj_heap_other hne] at this
  rw [this]; exact hD2
theorem AWP.rangeBlk {P : Program} {C : Ctx} {Q : Exit → St → Prop} {s : St} {fn : Func} {m : Nat} {R : AV → Heap → Prop} {g : Operand} {ps : Array Tmp} {assign body rest x : Code} {k : Nat} {Hdone Hstop : Heap → Prop} {gf : FuncId} {caps : List Cell}
  (hx : C.x = ⟨[], none, EM P fn m R C.ι C.h C.b C.w⟩) (h : AWP P C x (fun e s' => e = .normal ∧ RangeOK P C fn m R g ps assign body rest Hdone Hstop gf caps s') s) :
  AWP P C (.seq (.seq x (.block k (.rangeFunc g ps assign body))) rest) Q s := by
 intro a w ι I
 refine wpIn_seq (wpIn_seq (wpIn_mono (h a w ι I) ?_))
 rintro e a' w' (⟨s', ι', ⟨rfl, ok⟩, I'⟩ | ⟨rfl, he⟩)
 ·refine wpIn_block (wpIn_mono (rangeFunc_wp (Q := Q) hx ok I') ?_)
  intro e a2 w2 q
  cases e <;> first | exact q | exact q.elim
 ·exact .inr ⟨rfl, he⟩
theorem Ends.all {P : Program} {C : Ctx} {fn : Func} {m : Nat} {R : AV → Heap → Prop} {s : St} {r : AV} (hm : s.n = m) (hr : resA P s.h s.t fn.results.toList = some r) (hR : R r s.h) : Ends P C fn m R s := by
 intro a w ι I
 subst hm
 obtain ⟨v, h1, h2⟩ := res_ok (P := P) I hr
 exact ⟨v, r, s.h, ι, h1, hR, ⟨I.outer, I.fresh, I.bound, I.heap, I.keeps⟩, h2⟩
theorem ACalls.ofBelow {P : Program} {f : FuncId} {args : List AV} {h : Heap} {b : Nat} {r : AV}
  (hc : ∀ ι w vs, HeapOK ι h b w → RAVs ι h b w args vs → Calls P f vs.toArray w fun e w' => ∃ v, e = .returned v ∧ RowKit.Below w.heap.size w w' ∧ RAV ι h b w r v) : ACalls P f args h b 0 (fun r' h' => r' = r ∧ h' = h) := by
 intro ι w vs hb hh ha
 refine (hc ι w vs hh ha).mono ?_
 rintro e w' ⟨v, rfl, hB, hr⟩
 have ag : ∀ S : Nat → Prop, AgreeOn S w w' := fun S x _ hx => hB.block x hx
 have M : Moves ι h b w ι h b w' := Moves.world (ag _)
 refine ⟨v, r, h, ι, rfl, ⟨rfl, rfl⟩, ⟨fun id _ b' e => ⟨b', e, .refl _ _ _⟩, fun id hid b' e => (by rw [hb id hid] at e; cases e), fun id hid => hb id (by omega), ⟨fun id blk e ne => ?_, hh.inj⟩, ⟨hB.size, hB.os, hB.output, ag _⟩⟩, hr.move M⟩
 obtain ⟨c, ty, h1, h2, h3⟩ := hh.blk id blk e ne
 exact ⟨c, ty, (hB.block _ (Array.getElem?_eq_some_iff.1 h1).1).trans h1, h2, fun j d u hd hu => (h3 j d u hd hu).move M⟩
theorem Post.cut {ι ι' : Nat → Nat} {h h' : Heap} {b m : Nat} {w w' : World} (p : Post ι h b w m ι' h' w') (n : Nat) (hn : n ≤ m) : Post ι h b w n ι' (cutH (b + n) h') w' := by
 refine ⟨fun id hid b' e => ?_, fun id hid b' e ne => ?_, fun id hid => ?_, p.heap.cut _, p.keeps⟩
 ·obtain ⟨_, b1, hb, rfl⟩ := cutH_some e
  obtain ⟨b0, h0, h1, h2⟩ := p.outer id hid b1 hb
  refine ⟨b0, h0, h1, ?_⟩
  rcases h2 with ⟨h2, h3⟩ | ⟨h2, h3⟩
  ·exact .inl ⟨by simp [h2], h3⟩
  ·exact .inr ⟨h2, fun hn => h3 (by intro hh; apply hn; simp [hh])⟩
 ·obtain ⟨_, b1, hb, rfl⟩ := cutH_some e
  exact p.fresh id hid b1 hb (by intro hh; apply ne; simp [hh])
 ·unfold cutH
  rw [if_neg (by omega)]
theorem Post.dummy {ι ι' : Nat → Nat} {h h' : Heap} {b m : Nat} {w w' : World} (p : Post ι h b w m ι' h' w') : Inv ⟨0, b, ι, h, w, x0⟩ ι' ⟨junkT, h', m⟩ { tmps := #[], defers := [] } w' :=
 ⟨p.outer, p.fresh, p.bound, p.heap, fun _ => .one (.junk _), rfl, rfl, p.keeps⟩
theorem Inv.post {C : Ctx} {ι : Nat → Nat} {s : St} {a : Act} {w : World} (I : Inv C ι s a w) : Post C.ι C.h C.b C.w s.n ι s.h w := ⟨I.outer, I.fresh, I.bound, I.heap, I.keeps⟩
theorem Post.trans {ι ι1 ι2 : Nat → Nat} {h h1 h2 : Heap} {b m m2 : Nat} {w w1 w2 : World} (p : Post ι h b w m ι1 h1 w1) (q : Post ι1 h1 (b + m) w1 m2 ι2 h2 w2) : Post ι h b w (m + m2) ι2 h2 w2 :=
 (Post.inv p.dummy q).post
theorem putObj_self {w : World} {l : Nat} {o : Obj} (h : w.heap[l]? = some o) : w.putObj l o = w := by
 unfold World.putObj
 have hlt : l < w.heap.size := (Array.getElem?_eq_some_iff.1 h).1
 have : w.heap.setIfInBounds l o = w.heap := by
  apply Array.ext
  ·simp
  ·intro i h1 h2
   rw [Array.getElem_setIfInBounds h2]
   split
   ·rename_i e
    subst e
    rw [Array.getElem?_eq_getElem hlt] at h
    injection h with h
    exact h.symm
   ·rfl
 cases w
 simp only at this ⊢
 rw [this]
theorem round_ok {P : Program} {C : Ctx} {s : St} {a : Act} {w2 w1 : World} {ι ι1 : Nat → Nat} {h1 : Heap} {l fnid D : Nat} {pp d : Tmp} {rid : Nat} {ty : TypeId} {pos : String} {after : Array Edge} {body : Code} (x : ByteArray) {G S : Heap → Prop}
  (I : Inv C ι s a w2) (p : Post ι s.h (C.b + s.n) w2 0 ι1 h1 w1)
  (hl : w1.heap[l]? = some (.loop ⟨.ready, none, fnid, a.tmps, #[pp], .region rid #[⟨some d, .assign (.tmp pp), ty, pos, after, none⟩] false, body, D⟩)) (hd : d < C.N) (hpp : pp < C.N)
  (hbody : ∀ w', HeapOK ι1 h1 (C.b + s.n) w' → AWP P ⟨C.N, C.b + s.n, ι1, h1, w', ⟨[], some l, fun _ _ => False⟩⟩ body (fun e s' => (e = .normal ∧ G (cutH (C.b + s.n) s'.h)) ∨ (e = .ret ∧ S (cutH (C.b + s.n) s'.h)))
   ⟨updT (updT s.t pp (.one (.p (.v (.string x))))) d (.one (.p (.v (.string x)))), h1, 0⟩) :
  RoundIn Fence.wide 0 P l fnid (a.tmps.setIfInBounds pp (.string x)) (.region rid #[⟨some d, .assign (.tmp pp), ty, pos, after, none⟩] false) body w1
   (fun e w' => ∃ v h' ι', e = .returned (.bool v) ∧ Post ι1 h1 (C.b + s.n) w1 0 ι' h' (w'.putObj l (.loop ⟨.ready, none, fnid, a.tmps, #[pp], .region rid #[⟨some d, .assign (.tmp pp), ty, pos, after, none⟩] false, body, D⟩)) ∧
    (v = true → G h' ∧ w'.heap[l]? = some (.loop ⟨.ready, none, fnid, a.tmps, #[pp], .region rid #[⟨some d, .assign (.tmp pp), ty, pos, after, none⟩] false, body, D⟩)) ∧
    (v = false → S h' ∧ w'.heap[l]? = some (.loop ⟨.done, some .ret, fnid, a.tmps, #[pp], .region rid #[⟨some d, .assign (.tmp pp), ty, pos, after, none⟩] false, body, D⟩))) := by
 have I1 := Post.inv I p
 have hN : (a.tmps.setIfInBounds pp (.string x)).size = C.N := by simp [I.ntmps]
 have hb : ∀ id, C.b + s.n ≤ id → h1 id = none := fun id hid => p.bound id (by omega)
 have hpt : pp < a.tmps.size := by rw [I.ntmps]; exact hpp
 have ht : ∀ i, RAV ι1 h1 (C.b + s.n) w1 (updT s.t pp (.one (.p (.v (.string x)))) i) ((a.tmps.setIfInBounds pp (.string x)).getD i undef) := by
  intro i
  by_cases e : i = pp
  ·subst e
   rw [updT_same]
   have : (a.tmps.setIfInBounds i (.string x)).getD i undef = .string x := by simp [Array.getD, hpt]
   rw [this]; exact rav_v _
  ·rw [updT_ne _ _ _ _ e]
   have : (a.tmps.setIfInBounds pp (.string x)).getD i undef = a.tmps.getD i undef := by
    simp only [Array.getD_eq_getD_getElem?, Array.getElem?_setIfInBounds]
    rw [if_neg (fun h => e h.symm)]
   rw [this]; exact I1.tmps i
 have hh : HeapOK ι1 h1 (C.b + s.n) w1 := p.heap
 have hR : RoundIn Fence.wide 0 P l fnid (a.tmps.setIfInBounds pp (.string x)) (.region rid #[⟨some d, .assign (.tmp pp), ty, pos, after, none⟩] false) body w1 _ :=
  round_of (P := P) (f := fnid) (N := C.N) (b := C.b + s.n) (ι := ι1) (h := h1) (t := updT s.t pp (.one (.p (.v (.string x))))) (tm := a.tmps.setIfInBounds pp (.string x)) (d := d) (p := pp) (rid := rid) (ty := ty) (pos := pos) (after := after) (body := body)
   (Q3 := fun e s' => (e = .normal ∧ G (cutH (C.b + s.n) s'.h)) ∨ (e = .ret ∧ S (cutH (C.b + s.n) s'.h)))
   hl rfl rfl hb hh hN ht hd (fun w' hw' => by
    have := hbody w' hw'
    rw [updT_same]
    exact this) (fun e s' q => q.imp (·.1) (·.1))
 refine hR.mono ?_
 rintro e w' ⟨v, s', ι', rfl, q, hp, hrec⟩
 refine ⟨v, cutH (C.b + s.n) s'.h, ι', rfl, hp.cut 0 (Nat.zero_le _), fun hv => ?_, fun hv => ?_⟩
 ·subst hv
  refine ⟨?_, hrec⟩
  rcases q with q | q
  ·exact q.2
  ·cases q.1
 ·subst hv
  refine ⟨?_, hrec⟩
  rcases q with q | q
  ·cases q.1
  ·exact q.2
theorem rnd_of {P : Program} {N : Nat} {E : Act → World → Prop} {b : Nat} {ι : Nat → Nat} {h0 : Heap} {w2 : World} {l : Nat} {r r' : Loop} {pp : Tmp} {x : ByteArray} {t : Nat → AV} {h1 : Heap} {G S : Heap → Prop}
  (H : HeapOK ι h0 b w2) (hl : w2.heap[l]? = some (.loop r)) (hpar : r.params = #[pp])
  (hround : ∀ ι1 w1, Post ι h0 b w2 0 ι1 h1 w1 → w1.heap[l]? = some (.loop r) → RoundIn Fence.wide 0 P l r.fn (r.tmps.setIfInBounds pp (.string x)) r.assign r.body w1 (fun e w' => ∃ v h' ι', e = .returned (.bool v) ∧ Post ι1 h1 b w1 0 ι' h' (w'.putObj l (.loop r)) ∧
    (v = true → G h' ∧ w'.heap[l]? = some (.loop r)) ∧ (v = false → S h' ∧ w'.heap[l]? = some (.loop r')))) :
  Rnd P ⟨N, b, ι, h0, w2, ⟨[], none, E⟩⟩ l r pp x ⟨t, h1, 0⟩ G (fun w' => ∃ h' ι', S h' ∧ Post ι h0 b w2 0 ι' h' (w'.putObj l (.loop r)) ∧ w'.heap[l]? = some (.loop r')) := by
 intro a w1 ι1 I
 have hl1 : w1.heap[l]? = some (.loop r) := by
  rw [← hl]
  exact I.keeps.old l (stab_rec H hl (noCells_loop r)) (Array.getElem?_eq_some_iff.1 hl).1
 have p : Post ι h0 b w2 0 ι1 h1 w1 := I.post
 refine ⟨hl1, hpar, (hround ι1 w1 p hl1).mono ?_⟩
 rintro e w' ⟨v, h', ι', rfl, hp, ht, hf⟩
 refine ⟨v, rfl, fun hv => ?_, fun hv => ?_⟩
 ·obtain ⟨g, hw⟩ := ht hv
  rw [putObj_self hw] at hp
  exact ⟨h', ι', g, hp⟩
 ·obtain ⟨g, hw⟩ := hf hv
  exact ⟨h', ι', g, p.trans hp, hw⟩
theorem yield_last {P : Program} {C : Ctx} {s : St} {l : Nat} {r0 : Loop} {pp : Tmp} {x : ByteArray} {HS : Heap → Prop} {EX : World → Prop} {rid d1 d2 d3 : Nat} {x1 x2 : Operand} {t1 t2 t3 ty : TypeId} {p1 p2 p3 : String} {a1 a2 a3 : Array Edge} {tys : Array TypeId}
  (hr : C.x.rd = none) (hD : C.x.D = []) (hn : s.n = 0) (hd : d1 < C.N ∧ d2 < C.N ∧ d3 < C.N) (hne : d1 ≠ d2)
  (h1 : val s.t x1 = .one (.p (.v (.func (.yield l) #[] #[])))) (h2 : ldA P ty s.h (val (updT s.t d1 (.one (.p (.v (.func (.yield l) #[] #[]))))) x2) = some (.one (.p (.v (.string x)))))
  (hR : ∀ t, Rnd P C l r0 pp x ⟨t, s.h, 0⟩ HS EX) {a : Act} {w : World} {ι : Nat → Nat} (I : Inv C ι s a w) :
  (Code.region rid #[⟨some d1, .move x1, t1, p1, a1, none⟩, ⟨some d2, .load ty x2, t2, p2, a2, none⟩, ⟨some d3, .call ⟨.value (.tmp d1), #[.tmp d2], tys⟩, t3, p3, a3, none⟩] false).wpIn C.F 0 P
   (fun e a' w' => e = .normal ∧ a'.defers = [] ∧ ((∃ h' ι', HS h' ∧ Post C.ι C.h C.b C.w 0 ι' h' w') ∨ EX w')) a w := by
 have b1 := val_ok I x1
 rw [h1] at b1
 have I1 : Inv C ι ⟨putT s.t (some d1) _, s.h, s.n⟩ (a.put (some d1) (a.eval x1)) w := Inv.put I (show dstOK C.N (some d1) from hd.1) b1
 refine wpIn_region_list (wpListIn_plain rfl (fun K hK => BigFrame.wpIn_move x1 rfl (hK _ _ (wpListIn_plain rfl (fun K2 hK2 => ?_)))))
 refine Oper.wp_in (fun c e => by cases e) (fun a w h => h) (aop_ok (o := ⟨some d2, .load ty x2, t2, p2, a2, none⟩) (E := fun _ _ => False) (K := fun v h' n' => v = .one (.p (.v (.string x))) ∧ h' = s.h ∧ n' = s.n) ?_ _ w ι I1 K2 _ (fun _ _ _ _ _ h => h.elim) ?_)
 ·show optK (sop P _ s.h _) _
  have : sop P (putT s.t (some d1) (.one (.p (.v (.func (.yield l) #[] #[]))))) s.h ⟨some d2, .load ty x2, t2, p2, a2, none⟩ = some (.one (.p (.v (.string x)))) := h2
  rw [this]
  exact ⟨rfl, rfl, rfl⟩
 ·rintro v av h' n' ι' w' ⟨rfl, rfl, rfl⟩ I2 rv
  refine hK2 _ _ (wpListIn_plain rfl (fun K3 hK3 => ?_))
  have I3 := Inv.put I2 (show dstOK C.N (some d2) from hd.2.1) rv
  have hsn : s.n = 0 := hn
  refine yield_wp (l := l) (r0 := r0) (pp := pp) (p := x) (HS := HS) (EX := EX) hr rfl ?_ ?_ (by rw [hsn]; exact hR _) (show dstOK C.N (some d3) from hd.2.2) I3 (fun h'' ι'' a' w'' hs I4 => hK3 _ _ ?_) (fun w'' ex => hK3 _ _ ?_)
  ·show updT (updT s.t d1 _) d2 _ d1 = _
   rw [updT_ne _ _ _ _ hne, updT_same]
  ·show updT (updT s.t d1 _) d2 _ d2 = _
   rw [updT_same]
  ·refine wpListIn_nil ⟨rfl, ?_, .inl ⟨h'', ι'', hs, ?_⟩⟩
   ·rw [I4.defers, hD]
   ·have := I4.post
    rw [show (⟨_, h'', s.n⟩ : St).n = s.n from rfl, hsn] at this
    exact this
  ·refine wpListIn_nil ⟨rfl, ?_, .inr ex⟩
   rw [put_defers, I3.defers, hD]
theorem Inv.args {N b : Nat} {ι : Nat → Nat} {h : Heap} {w : World} {x : Xt} {args : List AV} {vs : List Value} (hn : args.length ≤ N) (hbd : ∀ id, b ≤ id → h id = none) (hh : HeapOK ι h b w) (ha : RAVs ι h b w args vs) :
  Inv ⟨N, b, ι, h, w, x⟩ ι ⟨argsT args, h, 0⟩ { tmps := vs.toArray ++ Array.replicate (N - vs.toArray.size) undef, defers := x.D } w := by
 refine Inv.start hbd hh ?_ (fun t => ?_)
 ·have hl := ha.1
  simp; omega
 ·obtain ⟨hl, hv⟩ := ha
  rcases Nat.lt_or_ge t args.length with hlt | hge
  ·have e1 : args[t]? = some (args[t]) := List.getElem?_eq_getElem hlt
   have e2 : vs[t]? = some (vs[t]'(hl ▸ hlt)) := List.getElem?_eq_getElem (hl ▸ hlt)
   have := hv t _ _ e1 e2
   have e3 : argsT args t = args[t] := by simp [argsT, List.getD, e1]
   have e4 : (vs.toArray ++ Array.replicate (N - vs.toArray.size) undef).getD t undef = vs[t]'(hl ▸ hlt) := by
    simp [Array.getD, hl, hlt]
    omega
   rw [e3, e4]
   exact this
  ·have e3 : argsT args t = .one .junk := by simp [argsT, List.getD, List.getElem?_eq_none hge]
   rw [e3]
   exact .one (.junk _)
theorem AWP.loopK {P : Program} {C : Ctx} {Q : Exit → St → Prop} {s : St} {c : Code} (n : Nat) (I : Nat → St → Prop) (m : Nat) (hn : s.n = n) (h0 : I m s)
  (round : ∀ m s, I m s → s.n = n → AWP P C c (thn (fun s' => s'.n = n ∧ ∃ m', m' < m ∧ I m' s') Q) s) : AWP P C (.loop c) Q s := by
 intro a w ι hI b k cs hro hb hr
 have key : ∀ m s a w ι, I m s → s.n = n → Inv C ι s a w →
   ∃ e a' w', PostQ C Q e a' w' ∧ ArrivesIn (Machine.fenced P C.F) P (lone (b.atR a (.code c :: .inLoop c :: k)) cs w) b k cs e a' w' := by
  intro m
  induction m using Nat.strongRecOn with
  | _ m ih =>
    intro s a w ι hs hsn hinv
    obtain ⟨e, a₁, w₁, hq, harr⟩ := round m s hs hsn a w ι hinv b (.inLoop c :: k) cs hro hb hr
    rcases hq with ⟨s₁, ι₁, hq, hinv₁⟩ | ⟨rfl, he⟩
    ·cases e with
     | normal =>
       obtain ⟨hle, m', hlt, hI₁⟩ := hq
       obtain ⟨e₂, a₂, w₂, hq₂, harr₂⟩ := ih m' hlt s₁ a₁ w₁ ι₁ hI₁ hle hinv₁
       exact ⟨e₂, a₂, w₂, hq₂, .of_steps (StepsIn.trans harr (.one (fenced_calm hb hr rfl) stepR_inLoop)) harr₂⟩
     | exit id => exact ⟨_, a₁, w₁, .inl ⟨s₁, ι₁, hq, hinv₁⟩, .pass (x := .inLoop c) rfl (fun _ _ => .inl (by simp)) harr⟩
     | goto l => exact ⟨_, a₁, w₁, .inl ⟨s₁, ι₁, hq, hinv₁⟩, .pass (x := .inLoop c) rfl (fun _ _ => .inl (by simp)) harr⟩
     | ret => exact ⟨_, a₁, w₁, .inl ⟨s₁, ι₁, hq, hinv₁⟩, .pass (x := .inLoop c) rfl (fun _ _ => .inl (by simp)) harr⟩
     | panic ch => exact ⟨_, a₁, w₁, .inl ⟨s₁, ι₁, hq, hinv₁⟩, .pass (x := .inLoop c) rfl (fun _ _ => .inl (by simp)) harr⟩
     | outgrown => exact ⟨_, a₁, w₁, .inl ⟨s₁, ι₁, hq, hinv₁⟩, .pass (x := .inLoop c) rfl (fun _ _ => .inl (by simp)) harr⟩
    ·exact ⟨_, a₁, w₁, .inr ⟨rfl, he⟩, .pass (x := .inLoop c) rfl (fun _ _ => .inl (by simp)) harr⟩
 obtain ⟨e, a', w', hq, harr⟩ := key _ s a w ι h0 hn hI
 exact ⟨e, a', w', hq, .of_steps (.one (fenced_calm hb hr rfl) stepR_loop) harr⟩
theorem beq_tt : (true == true) = true := rfl
theorem beq_tf : (true == false) = false := rfl
theorem beq_ft : (false == true) = false := rfl
theorem beq_ff : (false == false) = true := rfl
theorem dec_10 : decide ((1 : Int) = 0) = false := rfl
attribute [go_sem] beq_tt beq_tf beq_ft beq_ff dec_10
end Go.Proofs.YtihgnpboabpchaaGreatDoor.Am
namespace Go.Proofs.YtihgnpboabpchaaGreatDoor
set_option linter.unusedSimpArgs false
set_option linter.unusedVariables false
set_option linter.unnecessarySimpa false
open Go Am
def mkS (l : List UInt8) : ByteArray := ⟨l.toArray⟩
theorem mkS_list (l : List UInt8) : (mkS l).data.toList = l := rfl
theorem mkS_size (l : List UInt8) : (mkS l).size = l.length := by simp [mkS, ByteArray.size]
theorem mkS_of (s : ByteArray) : mkS s.data.toList = s := by simp [mkS]
theorem mkS_extract (l : List UInt8) (a b : Nat) : (mkS l).extract a b = mkS ((l.drop a).take (b - a)) := by
 apply ByteArray.ext
 rw [ByteArray.data_extract]
 apply Array.ext'
 simp [mkS, List.extract]
theorem mkS_append (a b : List UInt8) : mkS a ++ mkS b = mkS (a ++ b) := by
 apply ByteArray.ext
 rw [ByteArray.data_append]
 apply Array.ext'
 simp [mkS]
abbrev StrV (l : List UInt8) : AV := .one (.p (.v (.string (mkS l))))
abbrev U8V (c : UInt8) : AV := .one (.p (.v (.int .u8 (c.toNat : Int))))
def octB (c : UInt8) : Bool := c == 47 || (decide (32 < c.toNat) && decide (c.toNat < 127))
def fitsX (l : List UInt8) : Int := if 96 < l.length then 3 else if l.all octB = true then 0 else 2
def parts : List UInt8 → List (List UInt8)
 | [] => [[]]
 | c :: l => if c = 47 then [] :: parts l else match parts l with
   | p :: ps => (c :: p) :: ps
   | [] => [[c]]
def stepC (kept : List (List UInt8)) (p : List UInt8) : Option (List (List UInt8)) :=
 if p = [] ∨ p = [46] then some kept else if p = [46, 46] then (if kept = [] then none else some kept.dropLast) else some (kept ++ [p])
def goC : List (List UInt8) → List (List UInt8) → Option (List (List UInt8))
 | kept, [] => some kept
 | kept, p :: ps => match stepC kept p with
   | some k => goC k ps
   | none => none
def joinS : List (List UInt8) → List UInt8
 | [] => []
 | [p] => p
 | p :: ps => p ++ 47 :: joinS ps
def cleanX (l : List UInt8) : List UInt8 × Int :=
 if fitsX l ≠ 0 then ([], fitsX l) else match goC [] (parts l) with
  | none => ([], 4)
  | some [] => ([], 1)
  | some (p :: ps) => (joinS (p :: ps), 0)
abbrev S := List UInt8
def Good (p : S) : Prop := p ≠ [] ∧ p ≠ [46] ∧ p ≠ [46, 46]
instance (p : S) : Decidable (Good p) := by unfold Good; infer_instance
theorem parts_ne (l : S) : parts l ≠ [] := by
 cases l with
 | nil => simp [parts]
 | cons c l =>
   unfold parts
   split
   ·simp
   ·split <;> simp
theorem parts_sl (l : S) : parts (47 :: l) = [] :: parts l := by simp [parts]
theorem parts_cons {c : UInt8} (hc : c ≠ 47) {l : S} {p : S} {ps : List S} (h : parts l = p :: ps) : parts (c :: l) = (c :: p) :: ps := by
 unfold parts
 rw [if_neg hc, h]
theorem parts_ex (l : S) : ∃ p ps, parts l = p :: ps := by
 match h : parts l with
 | [] => exact absurd h (parts_ne l)
 | p :: ps => exact ⟨p, ps, rfl⟩
theorem parts_app (a b : S) : parts (a ++ 47 :: b) = parts a ++ parts b := by
 induction a with
 | nil => rw [List.nil_append, parts_sl]; rfl
 | cons c a ih =>
   by_cases hc : c = 47
   ·subst hc; rw [List.cons_append, parts_sl, parts_sl, ih]; rfl
   ·obtain ⟨p, ps, h⟩ := parts_ex a
    rw [h] at ih
    rw [List.cons_append, parts_cons hc ih, parts_cons hc h]; rfl
theorem parts_one {p : S} (h : (47 : UInt8) ∉ p) : parts p = [p] := by
 induction p with
 | nil => rfl
 | cons c p ih =>
   simp only [List.mem_cons, not_or] at h
   exact parts_cons (fun e => h.1 e.symm) (ih h.2)
theorem mem_parts {l q : S} (h : q ∈ parts l) : (47 : UInt8) ∉ q ∧ ∀ c ∈ q, c ∈ l := by
 induction l generalizing q with
 | nil => simp [parts] at h; subst h; simp
 | cons c l ih =>
   by_cases hc : c = 47
   ·subst hc
    rw [parts_sl] at h
    rcases List.mem_cons.1 h with rfl | h
    ·simp
    ·exact ⟨(ih h).1, fun x hx => List.mem_cons_of_mem _ ((ih h).2 x hx)⟩
   ·obtain ⟨p, ps, hp⟩ := parts_ex l
    rw [parts_cons hc hp] at h
    have hm : ∀ q ∈ p :: ps, (47 : UInt8) ∉ q ∧ ∀ c ∈ q, c ∈ l := fun q hq => ih (by rw [hp]; exact hq)
    rcases List.mem_cons.1 h with rfl | h
    ·obtain ⟨h1, h2⟩ := hm p (List.mem_cons_self ..)
     refine ⟨fun hx => ?_, fun x hx => ?_⟩
     ·rcases List.mem_cons.1 hx with e | e
      ·exact hc e.symm
      ·exact h1 e
     ·rcases List.mem_cons.1 hx with rfl | e
      ·exact List.mem_cons_self ..
      ·exact List.mem_cons_of_mem _ (h2 x e)
    ·obtain ⟨h1, h2⟩ := hm q (List.mem_cons_of_mem _ h)
     exact ⟨h1, fun x hx => List.mem_cons_of_mem _ (h2 x hx)⟩
theorem joinS_cons {p : S} {ps : List S} (h : ps ≠ []) : joinS (p :: ps) = p ++ 47 :: joinS ps := by
 match ps with
 | q :: qs => rfl
theorem joinS_app {a b : List S} (ha : a ≠ []) (hb : b ≠ []) : joinS (a ++ b) = joinS a ++ 47 :: joinS b := by
 induction a with
 | nil => exact absurd rfl ha
 | cons p a ih =>
   by_cases h : a = []
   ·subst h; rw [List.cons_append, List.nil_append, joinS_cons hb]; rfl
   ·rw [List.cons_append, joinS_cons (by simp [h]), ih h, joinS_cons h]; simp
theorem joinS_parts (l : S) : joinS (parts l) = l := by
 induction l with
 | nil => rfl
 | cons c l ih =>
   by_cases hc : c = 47
   ·subst hc; rw [parts_sl, joinS_cons (parts_ne l), ih]; rfl
   ·obtain ⟨p, ps, hp⟩ := parts_ex l
    rw [parts_cons hc hp]
    rw [hp] at ih
    by_cases h : ps = []
    ·subst h; rw [← ih]; rfl
    ·rw [joinS_cons h] at ih ⊢; rw [← ih]; rfl
theorem parts_joinS {ps : List S} (h : ps ≠ []) (hs : ∀ q ∈ ps, (47 : UInt8) ∉ q) : parts (joinS ps) = ps := by
 induction ps with
 | nil => exact absurd rfl h
 | cons p ps ih =>
   by_cases hp : ps = []
   ·subst hp; exact parts_one (hs p (List.mem_cons_self ..))
   ·rw [joinS_cons hp, parts_app, parts_one (hs p (List.mem_cons_self ..)), ih hp fun q hq => hs q (List.mem_cons_of_mem _ hq)]; rfl
def wt : List S → Nat
 | [] => 0
 | p :: ps => p.length + 1 + wt ps
theorem joinS_wt {ps : List S} (h : ps ≠ []) : (joinS ps).length + 1 = wt ps := by
 induction ps with
 | nil => exact absurd rfl h
 | cons p ps ih =>
   by_cases hp : ps = []
   ·subst hp; simp [joinS, wt]
   ·rw [joinS_cons hp]; have := ih hp; simp [wt]; omega
theorem wt_app (a b : List S) : wt (a ++ b) = wt a + wt b := by
 induction a with
 | nil => simp [wt]
 | cons p a ih => simp [wt, ih]; omega
theorem wt_dropLast (a : List S) : wt a.dropLast ≤ wt a := by
 induction a with
 | nil => simp [wt]
 | cons p a ih =>
   cases a with
   | nil => simp [wt]
   | cons q a => rw [List.dropLast_cons_cons]; simp only [wt] at ih ⊢; omega
theorem stepC_good {kept : List S} {p : S} (h : Good p) : stepC kept p = some (kept ++ [p]) := by
 unfold stepC
 obtain ⟨h1, h2, h3⟩ := h
 rw [if_neg (by simp [h1, h2]), if_neg h3]
theorem goC_good (kept : List S) (ps : List S) (h : ∀ q ∈ ps, Good q) : goC kept ps = some (kept ++ ps) := by
 induction ps generalizing kept with
 | nil => simp [goC]
 | cons p ps ih =>
   unfold goC
   rw [stepC_good (h p (List.mem_cons_self ..))]
   simp only
   rw [ih _ fun q hq => h q (List.mem_cons_of_mem _ hq)]; simp
theorem goC_app (kept a b : List S) : goC kept (a ++ b) = (goC kept a).bind fun k => goC k b := by
 induction a generalizing kept with
 | nil => simp [goC]
 | cons p a ih =>
   rw [List.cons_append]
   have e1 : ∀ l, goC kept (p :: l) = match stepC kept p with
     | some k => goC k l
     | none => none := fun l => rfl
   rw [e1, e1]
   cases h : stepC kept p with
   | none => rfl
   | some k => exact ih k
theorem stepC_inv {kept k : List S} {p : S} (h : stepC kept p = some k) : (∀ q ∈ k, q ∈ kept ∨ (q = p ∧ Good q)) ∧ wt k ≤ wt kept + wt [p] := by
 unfold stepC at h
 split at h
 ·injection h with h; subst h; exact ⟨fun q hq => .inl hq, by omega⟩
 ·rename_i h1
  split at h
  ·split at h
   ·cases h
   ·injection h with h; subst h; exact ⟨fun q hq => .inl (List.dropLast_subset _ hq), by have := wt_dropLast kept; omega⟩
  ·rename_i h2
   injection h with h; subst h
   refine ⟨fun q hq => ?_, by rw [wt_app]; omega⟩
   rcases List.mem_append.1 hq with hq | hq
   ·exact .inl hq
   ·rw [List.mem_singleton] at hq; subst hq
    rw [not_or] at h1
    exact .inr ⟨rfl, h1.1, h1.2, h2⟩
theorem goC_inv {kept ps k : List S} (h : goC kept ps = some k) : (∀ q ∈ k, q ∈ kept ∨ (q ∈ ps ∧ Good q)) ∧ wt k ≤ wt kept + wt ps := by
 induction ps generalizing kept with
 | nil => simp [goC] at h; subst h; exact ⟨fun q hq => .inl hq, by simp [wt]⟩
 | cons p ps ih =>
   unfold goC at h
   split at h
   ·rename_i k1 h1
    obtain ⟨a1, a2⟩ := stepC_inv h1
    obtain ⟨b1, b2⟩ := ih h
    refine ⟨fun q hq => ?_, by simp only [wt] at a2 b2 ⊢; omega⟩
    rcases b1 q hq with hq | ⟨hq, hg⟩
    ·rcases a1 q hq with hq | ⟨rfl, hg⟩
     ·exact .inl hq
     ·exact .inr ⟨List.mem_cons_self .., hg⟩
    ·exact .inr ⟨List.mem_cons_of_mem _ hq, hg⟩
   ·cases h
theorem fitsX_eq {l : S} : fitsX l = 0 ↔ l.length ≤ 96 ∧ ∀ c ∈ l, octB c = true := by
 unfold fitsX
 split
 ·simp; omega
 ·split
  ·rename_i h1 h2; simp only [List.all_eq_true] at h2; simp; exact ⟨by omega, h2⟩
  ·rename_i h1 h2
   simp only [List.all_eq_true] at h2
   exact ⟨fun e => absurd e (by decide), fun e => absurd e.2 h2⟩
theorem cleanX_ok {l r : S} : cleanX l = (r, 0) ↔ fitsX l = 0 ∧ ∃ k, goC [] (parts l) = some k ∧ k ≠ [] ∧ r = joinS k := by
 unfold cleanX
 split
 ·rename_i h
  constructor
  ·intro e; exact absurd (Prod.mk.inj e).2 h
  ·intro ⟨e, _⟩; exact absurd e h
 ·rename_i h
  have h : fitsX l = 0 := by simpa using h
  split
  ·rename_i e; constructor
   ·intro e2; exact absurd (Prod.mk.inj e2).2 (by decide)
   ·rintro ⟨_, k, hk, _⟩; rw [e] at hk; cases hk
  ·rename_i e; constructor
   ·intro e2; exact absurd (Prod.mk.inj e2).2 (by decide)
   ·rintro ⟨_, k, hk, hne, _⟩; rw [e] at hk; injection hk with hk; exact absurd hk.symm hne
  ·rename_i p ps e; constructor
   ·intro e2; exact ⟨h, p :: ps, e, by simp, (Prod.mk.inj e2).1.symm⟩
   ·rintro ⟨_, k, hk, hne, rfl⟩; rw [e] at hk; injection hk with hk; rw [hk]
def Cln (p : S) : Prop := p.length ≤ 96 ∧ (∀ c ∈ p, octB c = true) ∧ ∀ q ∈ parts p, Good q
theorem cleanX_self {p : S} : cleanX p = (p, 0) ↔ Cln p := by
 rw [cleanX_ok]
 constructor
 ·rintro ⟨h1, k, hk, hne, hp⟩
  obtain ⟨h2, h3⟩ := fitsX_eq.1 h1
  refine ⟨h2, h3, ?_⟩
  obtain ⟨g, _⟩ := goC_inv hk
  have g : ∀ q ∈ k, q ∈ parts p ∧ Good q := fun q hq => by rcases g q hq with h | h; · cases h
                                                           ·exact h
  have : parts p = k := by
   have := parts_joinS hne fun q hq => (mem_parts (g q hq).1).1
   rw [hp]; exact this
  rw [this]
  exact fun q hq => (g q hq).2
 ·rintro ⟨h1, h2, h3⟩
  exact ⟨fitsX_eq.2 ⟨h1, h2⟩, parts p, by rw [goC_good _ _ h3]; rfl, parts_ne p, (joinS_parts p).symm⟩
def chkN (p : S) : Int := if (cleanX p).2 = 0 ∧ (cleanX p).1 = p then 0 else 1
theorem chkN_zero {p : S} : chkN p = 0 ↔ Cln p := by
 rw [← cleanX_self]
 unfold chkN
 split
 ·rename_i h; simp only [true_iff]; exact Prod.ext h.2 h.1
 ·rename_i h; simp; intro e; rw [e] at h; exact h ⟨rfl, rfl⟩
theorem chkN_or (p : S) : chkN p = 0 ∨ chkN p = 1 := by unfold chkN; split <;> simp
def folN (d : S) : Int := if d = [] then 0 else chkN d
def Fol (d : S) : Prop := d = [] ∨ Cln d
theorem folN_zero {d : S} : folN d = 0 ↔ Fol d := by
 unfold folN Fol
 split
 ·rename_i h; simp [h]
 ·rename_i h; rw [chkN_zero]; simp [h]
def withinN (d p : S) : Bool × Int := if folN d ≠ 0 ∨ chkN p ≠ 0 then (false, 1) else (decide (d = []) || (d ++ [47]).isPrefixOf p, 0)
theorem isPrefixOf_app {a p : S} : a.isPrefixOf p = true ↔ ∃ r, p = a ++ r := by
 rw [List.isPrefixOf_iff_prefix]
 exact ⟨fun ⟨r, h⟩ => ⟨r, h.symm⟩, fun ⟨r, h⟩ => ⟨r, h.symm⟩⟩
theorem parts_pre {d p : S} : (∃ r, p = (d ++ [47]) ++ r) ↔ ∃ ps, ps ≠ [] ∧ parts p = parts d ++ ps := by
 constructor
 ·rintro ⟨r, rfl⟩
  exact ⟨parts r, parts_ne r, by rw [List.append_assoc, List.singleton_append, parts_app]⟩
 ·rintro ⟨ps, hne, h⟩
  refine ⟨joinS ps, ?_⟩
  rw [← joinS_parts p, h, joinS_app (parts_ne d) hne, joinS_parts]; simp
theorem withinN_ok {d p : S} (hd : Fol d) (hp : Cln p) : withinN d p = (@decide (d = [] ∨ ∃ ps, ps ≠ [] ∧ parts p = parts d ++ ps) (Classical.propDecidable _), 0) := by
 unfold withinN
 rw [if_neg (by rw [folN_zero.2 hd, chkN_zero.2 hp]; simp)]
 congr 1
 rw [Bool.eq_iff_iff]
 simp only [Bool.or_eq_true, decide_eq_true_eq, isPrefixOf_app, parts_pre]
theorem Cln_ne {p : S} (h : Cln p) : p ≠ [] := by
 rintro rfl
 exact (h.2.2 [] (by simp [parts])).1 rfl
structure Tot {α : Type} (c : α → α → Int) : Prop where
 rng : ∀ a b, c a b = -1 ∨ c a b = 0 ∨ c a b = 1
 anti : ∀ a b, c b a = - c a b
 eq0 : ∀ a b, c a b = 0 ↔ a = b
 tr : ∀ x y z, c x y < 0 → c y z < 0 → c x z < 0
def lexC {α : Type} (c : α → α → Int) : List α → List α → Int
 | [], [] => 0
 | [], _ :: _ => -1
 | _ :: _, [] => 1
 | a :: x, b :: y => if c a b ≠ 0 then c a b else lexC c x y
theorem lexC_tot {α : Type} {c : α → α → Int} (h : Tot c) : Tot (lexC c) := by
 refine ⟨fun a b => ?_, fun a b => ?_, fun a b => ?_, fun a b d => ?_⟩
 ·induction a generalizing b with
  | nil => cases b <;> simp [lexC]
  | cons x a ih =>
    cases b with
    | nil => simp [lexC]
    | cons y b => unfold lexC; split
                  ·exact h.rng x y
                  ·exact ih b
 ·induction a generalizing b with
  | nil => cases b <;> simp [lexC]
  | cons x a ih =>
    cases b with
    | nil => simp [lexC]
    | cons y b =>
      unfold lexC
      have e := h.anti x y
      by_cases h0 : c x y = 0
      ·rw [if_neg (by omega), if_neg (by omega)]; exact ih b
      ·rw [if_pos (by omega), if_pos (by omega)]; exact e
 ·induction a generalizing b with
  | nil => cases b <;> simp [lexC]
  | cons x a ih =>
    cases b with
    | nil => simp [lexC]
    | cons y b =>
      unfold lexC
      by_cases h0 : c x y = 0
      ·rw [if_neg (by omega), ih b, (h.eq0 x y).1 h0]; simp
      ·rw [if_pos (by omega)]
       have : x ≠ y := fun e => h0 ((h.eq0 x y).2 e)
       simp [h0, this]
 ·induction a generalizing b d with
  | nil => cases b <;> cases d <;> simp [lexC]
  | cons x a ih =>
    cases b with
    | nil => cases d <;> simp [lexC]
    | cons y b =>
      cases d with
      | nil => simp [lexC]
      | cons z d =>
        simp only [lexC]
        intro h1 h2
        by_cases hxy : c x y = 0
        ·have e := (h.eq0 x y).1 hxy
         subst e
         rw [if_neg (by omega)] at h1
         by_cases hyz : c x z = 0
         ·rw [if_neg (by omega)] at h2 ⊢
          exact ih b d h1 h2
         ·rw [if_pos hyz] at h2 ⊢; exact h2
        ·rw [if_pos hxy] at h1
         by_cases hyz : c y z = 0
         ·have e := (h.eq0 y z).1 hyz
          subst e
          rw [if_pos hxy]; exact h1
         ·rw [if_pos hyz] at h2
          have h3 := h.tr x y z h1 h2
          rw [if_pos (by omega)]; exact h3
def cmpU (a b : UInt8) : Int := if a.toNat < b.toNat then -1 else if b.toNat < a.toNat then 1 else 0
theorem cmpU_tot : Tot cmpU := by
 refine ⟨fun a b => ?_, fun a b => ?_, fun a b => ?_, fun a b d => ?_⟩ <;> unfold cmpU
 ·split <;> (try split) <;> simp
 ·split <;> (try split) <;> (try split) <;> omega
 ·rw [← UInt8.toNat_inj]; split <;> (try split) <;> omega
 ·intro h1 h2
  split at h1
  ·split at h2
   ·rw [if_pos (by omega)]; omega
   ·split at h2 <;> omega
  ·split at h1 <;> omega
abbrev cmpS : S → S → Int := lexC cmpU
abbrev cmpP : List S → List S → Int := lexC cmpS
theorem cmpS_tot : Tot cmpS := lexC_tot cmpU_tot
theorem cmpP_tot : Tot cmpP := lexC_tot cmpS_tot
def cmpN (a b : S) : Int × Int := if chkN a ≠ 0 ∨ chkN b ≠ 0 then (0, 1) else (cmpP (parts a) (parts b), 0)
theorem cmpN_ok {a b : S} (ha : Cln a) (hb : Cln b) : cmpN a b = (cmpP (parts a) (parts b), 0) := by
 unfold cmpN; rw [if_neg (by rw [chkN_zero.2 ha, chkN_zero.2 hb]; simp)]
theorem cmpN_bad {a b : S} (h : (cmpN a b).2 = 0) : Cln a ∧ Cln b := by
 unfold cmpN at h
 split at h
 ·exact absurd h (show ¬ (1 : Int) = 0 by decide)
 ·rename_i h1
  rw [not_or] at h1
  exact ⟨chkN_zero.1 (by simpa using h1.1), chkN_zero.1 (by simpa using h1.2)⟩
theorem parts_inj {a b : S} (h : parts a = parts b) : a = b := by rw [← joinS_parts a, ← joinS_parts b, h]
end Go.Proofs.YtihgnpboabpchaaGreatDoor
namespace Go.Proofs
set_option linter.unusedSimpArgs false
set_option linter.unusedVariables false
open Go.Shelf
def Tryz.lays156_ren : Go.Shelf.Ren := ⟨fun | 156 => 133 | 165 => 178 | 166 => 179 | 169 => 180 | 240 => 207 | 241 => 208 | 276 => 225 | 277 => 226 | n => n, fun | 31 => 42 | 9 => 9 | 3 => 3 | 4 => 4 | 0 => 0 | 20 => 20 | 72 => 213 | 76 => 217 | 70 => 211 | 37 => 38 | 75 => 216 | 127 => 246 | 164 => 256 | 5 => 5 | 80 => 219 | n => n, fun | n => n⟩
theorem Tryz.lays156 : Go.Proofs.Lays.n156 Tryz.prog Tryz.lays156_ren := {
 mixed := by kernel_rfl
 f156 := Tryz.func133.trans (congrArg some (by kernel_rfl))
 f165 := Tryz.func178.trans (congrArg some (by kernel_rfl))
 f166 := Tryz.func179.trans (congrArg some (by kernel_rfl))
 f169 := Tryz.func180.trans (congrArg some (by kernel_rfl))
 f240 := Tryz.func207.trans (congrArg some (by kernel_rfl))
 f241 := Tryz.func208.trans (congrArg some (by kernel_rfl))
 f276 := Tryz.func225.trans (congrArg some (by kernel_rfl))
 f277 := Tryz.func226.trans (congrArg some (by kernel_rfl))
 t0 := Tryz.underlying0
 a0 := Tryz.isAgg0
 z0 := Tryz.sizeOf0
 v0 := Tryz.zeroValue0
 t3 := Tryz.underlying3
 a3 := Tryz.isAgg3
 z3 := Tryz.sizeOf3
 v3 := Tryz.zeroValue3
 t4 := Tryz.underlying4
 a4 := Tryz.isAgg4
 z4 := Tryz.sizeOf4
 v4 := Tryz.zeroValue4
 t9 := Tryz.underlying9
 a9 := Tryz.isAgg9
 z9 := Tryz.sizeOf9
 v9 := Tryz.zeroValue9
 t20 := Tryz.underlying20
 a20 := Tryz.isAgg20
 z20 := Tryz.sizeOf20
 v20 := Tryz.zeroValue20
 t31 := Tryz.underlying42
 a31 := Tryz.isAgg42
 z31 := Tryz.sizeOf42
 v31 := Tryz.zeroValue42
 t37 := Tryz.underlying38
 a37 := Tryz.isAgg38
 z37 := Tryz.sizeOf38
 v37 := Tryz.zeroValue38
 t70 := Tryz.underlying211
 a70 := Tryz.isAgg211
 z70 := Tryz.sizeOf211
 v70 := Tryz.zeroValue211
 t72 := Tryz.underlying213
 a72 := Tryz.isAgg213
 z72 := Tryz.sizeOf213
 v72 := Tryz.zeroValue213
 t75 := Tryz.underlying216
 a75 := Tryz.isAgg216
 z75 := Tryz.sizeOf216
 v75 := Tryz.zeroValue216
 t76 := Tryz.underlying217
 a76 := Tryz.isAgg217
 z76 := Tryz.sizeOf217
 v76 := Tryz.zeroValue217
 t127 := Tryz.underlying246
 a127 := Tryz.isAgg246
 z127 := Tryz.sizeOf246
 v127 := Tryz.zeroValue246
 t164 := Tryz.underlying256
 a164 := Tryz.isAgg256
 z164 := Tryz.sizeOf256
 v164 := Tryz.zeroValue256 }
theorem Tryz.Builder_Extra_156 : Builder.Extra Tryz.prog Tryz.lays156_ren := {
 sizeBuilder := by kernel_rfl
 liesBuilder := by kernel_rfl
 t5 := Tryz.underlying5
 a5 := Tryz.isAgg5
 z5 := Tryz.sizeOf5
 v5 := Tryz.zeroValue5
 infoByte := by kernel_rfl
 cellsByte := by kernel_rfl
 sizeByte := by kernel_rfl
 neB5 := by decide }
open Go.RowKit in
theorem Tryz.strings_Join (bk o c : Nat) (xs : List ByteArray) (sep : ByteArray) (w : World) (hcells : ∀ (j : Nat) x, xs[j]? = some x → w.cell? ⟨bk, o + j, none⟩ = some (.string x)) (hbk : bk < w.heap.size) (hN : xs.length ≤ 140737488355328) (hcap : xs.length ≤ c) (hlen : (Lib.join (xs.map (·.data.toList)) sep.data.toList).length ≤ 140737488355328) :
  Calls Tryz.prog 133 #[.slice (some ⟨bk, o, none⟩) xs.length c, .string sep] w fun e w' => e = .returned (.string ⟨(Lib.join (xs.map (·.data.toList)) sep.data.toList).toArray⟩) ∧ Below w.heap.size w w' := Any.strings_Join Tryz.lays156 Tryz.Builder_Extra_156 bk o c xs sep w hcells hbk hN hcap hlen
def Tryz.lays125_ren : Go.Shelf.Ren := ⟨fun | 125 => 118 | 128 => 167 | 129 => 168 | n => n, fun | 46 => 172 | 3 => 3 | 51 => 80 | 53 => 25 | 4 => 4 | 5 => 5 | 9 => 9 | n => n, fun | n => n⟩
theorem Tryz.lays125 : Go.Proofs.Lays.n125 Tryz.prog Tryz.lays125_ren := {
 mixed := by kernel_rfl
 f125 := Tryz.func118.trans (congrArg some (by kernel_rfl))
 f128 := Tryz.func167.trans (congrArg some (by kernel_rfl))
 f129 := Tryz.func168.trans (congrArg some (by kernel_rfl))
 t3 := Tryz.underlying3
 a3 := Tryz.isAgg3
 z3 := Tryz.sizeOf3
 v3 := Tryz.zeroValue3
 t4 := Tryz.underlying4
 a4 := Tryz.isAgg4
 z4 := Tryz.sizeOf4
 v4 := Tryz.zeroValue4
 t5 := Tryz.underlying5
 a5 := Tryz.isAgg5
 z5 := Tryz.sizeOf5
 v5 := Tryz.zeroValue5
 t9 := Tryz.underlying9
 a9 := Tryz.isAgg9
 z9 := Tryz.sizeOf9
 v9 := Tryz.zeroValue9
 t46 := Tryz.underlying172
 a46 := Tryz.isAgg172
 z46 := Tryz.sizeOf172
 v46 := Tryz.zeroValue172
 t51 := Tryz.underlying80
 a51 := Tryz.isAgg80
 z51 := Tryz.sizeOf80
 v51 := Tryz.zeroValue80
 t53 := Tryz.underlying25
 a53 := Tryz.isAgg25
 z53 := Tryz.sizeOf25
 v53 := Tryz.zeroValue25 }
theorem Tryz.bits_Len (x : Int) (w : World) (h0 : 0 ≤ x) (h1 : x ≤ 18446744073709551615) :
  Calls Tryz.prog 118 #[.int .u64 x] w fun e w' => e = .returned (.int .i64 (Lib.bitLen x.toNat)) ∧ w' = w := Any.bits_Len Tryz.lays125 x w h0 h1
def Tryz.lays143_ren : Go.Shelf.Ren := ⟨fun | 143 => 206 | 219 => 224 | 217 => 234 | 225 => 235 | 224 => 236 | 267 => 237 | 266 => 239 | 314 => 240 | n => n, fun | 9 => 9 | 3 => 3 | 4 => 4 | 5 => 5 | 46 => 172 | 146 => 269 | 51 => 80 | n => n, fun | 1 => 3 | n => n⟩
theorem Tryz.lays143 : Go.Proofs.Lays.n143 Tryz.prog Tryz.lays143_ren := {
 mixed := by kernel_rfl
 f143 := Tryz.func206.trans (congrArg some (by kernel_rfl))
 f217 := Tryz.func234.trans (congrArg some (by kernel_rfl))
 f219 := Tryz.func224.trans (congrArg some (by kernel_rfl))
 f224 := Tryz.func236.trans (congrArg some (by kernel_rfl))
 f225 := Tryz.func235.trans (congrArg some (by kernel_rfl))
 f266 := Tryz.func239.trans (congrArg some (by kernel_rfl))
 f267 := Tryz.func237.trans (congrArg some (by kernel_rfl))
 f314 := Tryz.func240.trans (congrArg some (by kernel_rfl))
 t3 := Tryz.underlying3
 a3 := Tryz.isAgg3
 z3 := Tryz.sizeOf3
 v3 := Tryz.zeroValue3
 t4 := Tryz.underlying4
 a4 := Tryz.isAgg4
 z4 := Tryz.sizeOf4
 v4 := Tryz.zeroValue4
 t5 := Tryz.underlying5
 a5 := Tryz.isAgg5
 z5 := Tryz.sizeOf5
 v5 := Tryz.zeroValue5
 t9 := Tryz.underlying9
 a9 := Tryz.isAgg9
 z9 := Tryz.sizeOf9
 v9 := Tryz.zeroValue9
 t46 := Tryz.underlying172
 a46 := Tryz.isAgg172
 z46 := Tryz.sizeOf172
 v46 := Tryz.zeroValue172
 t51 := Tryz.underlying80
 a51 := Tryz.isAgg80
 z51 := Tryz.sizeOf80
 v51 := Tryz.zeroValue80
 t146 := Tryz.underlying269
 a146 := Tryz.isAgg269
 z146 := Tryz.sizeOf269
 v146 := Tryz.zeroValue269
 g1 := by kernel_rfl }
open Go.RowKit Go.Lib in
theorem Tryz.strings_Index_one (s : ByteArray) (c : UInt8) (w : World) :
  Calls Tryz.prog 206 #[.string s, .string ⟨#[c]⟩] w fun e w' => e = .returned (.int .i64 (Lib.indexByte s.data.toList c)) ∧ w' = w := Any.strings_Index_one Tryz.lays143 s c w
def Tryz.lays138_ren : Go.Shelf.Ren := ⟨fun | 138 => 222 | 195 => 232 | 218 => 233 | 143 => 206 | 219 => 224 | 217 => 234 | 225 => 235 | 224 => 236 | 267 => 237 | 266 => 239 | 314 => 240 | n => n, fun | 9 => 9 | 3 => 3 | 4 => 4 | 5 => 5 | 0 => 0 | 46 => 172 | 146 => 269 | 51 => 80 | n => n, fun | 1 => 3 | n => n⟩
theorem Tryz.lays138 : Go.Proofs.Lays.n138 Tryz.prog Tryz.lays138_ren := {
 mixed := by kernel_rfl
 f138 := Tryz.func222.trans (congrArg some (by kernel_rfl))
 f143 := Tryz.func206.trans (congrArg some (by kernel_rfl))
 f195 := Tryz.func232.trans (congrArg some (by kernel_rfl))
 f217 := Tryz.func234.trans (congrArg some (by kernel_rfl))
 f218 := Tryz.func233.trans (congrArg some (by kernel_rfl))
 f219 := Tryz.func224.trans (congrArg some (by kernel_rfl))
 f224 := Tryz.func236.trans (congrArg some (by kernel_rfl))
 f225 := Tryz.func235.trans (congrArg some (by kernel_rfl))
 f266 := Tryz.func239.trans (congrArg some (by kernel_rfl))
 f267 := Tryz.func237.trans (congrArg some (by kernel_rfl))
 f314 := Tryz.func240.trans (congrArg some (by kernel_rfl))
 t0 := Tryz.underlying0
 a0 := Tryz.isAgg0
 z0 := Tryz.sizeOf0
 v0 := Tryz.zeroValue0
 t3 := Tryz.underlying3
 a3 := Tryz.isAgg3
 z3 := Tryz.sizeOf3
 v3 := Tryz.zeroValue3
 t4 := Tryz.underlying4
 a4 := Tryz.isAgg4
 z4 := Tryz.sizeOf4
 v4 := Tryz.zeroValue4
 t5 := Tryz.underlying5
 a5 := Tryz.isAgg5
 z5 := Tryz.sizeOf5
 v5 := Tryz.zeroValue5
 t9 := Tryz.underlying9
 a9 := Tryz.isAgg9
 z9 := Tryz.sizeOf9
 v9 := Tryz.zeroValue9
 t46 := Tryz.underlying172
 a46 := Tryz.isAgg172
 z46 := Tryz.sizeOf172
 v46 := Tryz.zeroValue172
 t51 := Tryz.underlying80
 a51 := Tryz.isAgg80
 z51 := Tryz.sizeOf80
 v51 := Tryz.zeroValue80
 t146 := Tryz.underlying269
 a146 := Tryz.isAgg269
 z146 := Tryz.sizeOf269
 v146 := Tryz.zeroValue269
 g1 := by kernel_rfl }
theorem Tryz.strings_Count_one (s : ByteArray) (c : UInt8) (w : World) :
  Calls Tryz.prog 222 #[.string s, .string ⟨#[c]⟩] w fun e w' => e = .returned (.int .i64 (Lib.countByte s.data.toList c)) ∧ w' = w := Any.strings_Count_one Tryz.lays138 s c w
def Tryz.lays99_ren : Go.Shelf.Ren := ⟨fun | 99 => 122 | 206 => 171 | n => n, fun | 9 => 9 | 4 => 4 | 3 => 3 | n => n, fun | n => n⟩
theorem Tryz.lays99 : Go.Proofs.Lays.n99 Tryz.prog Tryz.lays99_ren := {
 mixed := by kernel_rfl
 f99 := Tryz.func122.trans (congrArg some (by kernel_rfl))
 f206 := Tryz.func171.trans (congrArg some (by kernel_rfl))
 t3 := Tryz.underlying3
 a3 := Tryz.isAgg3
 z3 := Tryz.sizeOf3
 v3 := Tryz.zeroValue3
 t4 := Tryz.underlying4
 a4 := Tryz.isAgg4
 z4 := Tryz.sizeOf4
 v4 := Tryz.zeroValue4
 t9 := Tryz.underlying9
 a9 := Tryz.isAgg9
 z9 := Tryz.sizeOf9
 v9 := Tryz.zeroValue9 }
theorem Tryz.strings_HasPrefix (s p : ByteArray) (w : World) :
  Calls Tryz.prog 122 #[.string s, .string p] w fun e w' => e = .returned (.bool (Lib.hasPrefix s.data.toList p.data.toList)) ∧ w' = w := Any.strings_HasPrefix Tryz.lays99 s p w
end Go.Proofs
namespace Go.Proofs.YtihgnpboabpchaaGreatDoor
set_option linter.unusedSimpArgs false
set_option linter.unusedVariables false
set_option linter.unnecessarySimpa false
open Go Am
set_option maxRecDepth 100000
abbrev bl (s : ByteArray) : List UInt8 := s.data.toList
abbrev StrB (s : ByteArray) : AV := .one (.p (.v (.string s)))
theorem vals_eq {ι : Nat → Nat} {h : Heap} {bd : Nat} {w : World} : ∀ (xs : List Value) {vs : List Value}, RAVs ι h bd w (xs.map fun x => .one (.p (.v x))) vs → vs = xs
 | [], [], _ => rfl
 | [], _ :: _, r => by have := r.1; simp at this
 | _ :: _, [], r => by have := r.1; simp at this
 | x :: xs, v :: vs, r => by
   have h1 : v = x := rav_v_inv (r.2 0 _ v rfl rfl)
   have h2 : vs = xs := vals_eq (ι := ι) (h := h) (bd := bd) (w := w) xs ⟨by have := r.1; simpa using this, fun i c u hc hu => r.2 (i + 1) c u (by simpa using hc) (by simpa using hu)⟩
   rw [h1, h2]
theorem ACalls.ofVals {P : Program} {f : FuncId} {xs : List Value} {h : Heap} {b : Nat} {v : Value} (hc : ∀ w, Calls P f xs.toArray w fun e w' => e = .returned v ∧ w' = w) :
  ACalls P f (xs.map fun x => .one (.p (.v x))) h b 0 (fun r' h' => r' = .one (.p (.v v)) ∧ h' = h) :=
 ACalls.ofBelow (fun ι w vs _ ha => by
  rw [vals_eq xs ha]
  refine (hc w).mono ?_
  rintro e w' ⟨rfl, rfl⟩
  exact ⟨v, rfl, RowKit.Below.refl _ _, rav_v _⟩)
theorem hasPrefix_ok (s p : ByteArray) (h : Heap) (b : Nat) : ACalls Tryz.prog 122 [StrB s, StrB p] h b 0 (fun r h' => r = BoolV ((bl p).isPrefixOf (bl s)) ∧ h' = h) :=
 ACalls.ofVals (xs := [.string s, .string p]) (fun w => Tryz.strings_HasPrefix s p w)
theorem index_ok (s : ByteArray) (h : Heap) (b : Nat) : ACalls Tryz.prog 206 [StrB s, StrB ⟨#[47]⟩] h b 0 (fun r h' => r = IntV (Lib.indexByte (bl s) 47) ∧ h' = h) :=
 ACalls.ofVals (xs := [.string s, .string ⟨#[47]⟩]) (fun w => Tryz.strings_Index_one s 47 w)
theorem count_ok (s : ByteArray) (h : Heap) (b : Nat) : ACalls Tryz.prog 222 [StrB s, StrB ⟨#[47]⟩] h b 0 (fun r h' => r = IntV (Lib.countByte (bl s) 47) ∧ h' = h) :=
 ACalls.ofVals (xs := [.string s, .string ⟨#[47]⟩]) (fun w => Tryz.strings_Count_one s 47 w)
theorem libJoin_eq : ∀ xs : List S, Lib.join xs [47] = joinS xs
 | [] => rfl
 | [p] => by simp [Lib.join, joinS]
 | p :: q :: r => by
   have := libJoin_eq (q :: r)
   simp only [Lib.join] at this ⊢
   rw [joinS_cons (by simp), ← this]
   simp [List.intercalate, List.intersperse]
theorem len_wt : ∀ ks : List S, ks.length ≤ wt ks
 | [] => Nat.le_refl _
 | k :: ks => by have := len_wt ks; simp only [wt, List.length_cons]; omega
theorem join_ok {h : Heap} {b id ver cap : Nat} (ks : List S) (T : List Cell) (hne : ks ≠ []) (hb : h id = some ⟨ver, ks.map (fun k => Cell.p (.v (.string (mkS k)))) ++ T⟩) (hcap : ks.length ≤ cap) (hlen : (joinS ks).length ≤ 70368744177664) :
  ACalls Tryz.prog 133 [.one (.win id ver 0 ks.length cap), StrB ⟨#[47]⟩] h b 0 (fun r h' => r = StrV (joinS ks) ∧ h' = h) := by
 refine ACalls.ofBelow (fun ι w vs H ha => ?_)
 obtain ⟨hl, hv⟩ := ha
 match vs, hl with
 | [v0, v1], _ =>
   have r0 := hv 0 _ v0 rfl rfl
   have r1 := rav_v_inv (hv 1 _ v1 rfl rfl)
   subst r1
   have hlive : liveB h id ver = true := by unfold liveB; rw [hb]; simp
   obtain ⟨_, hX⟩ := win_inv r0 hlive
   have hne' : (⟨ver, ks.map (fun k => Cell.p (.v (.string (mkS k)))) ++ T⟩ : Blk).cells ≠ [] := by
    cases ks with
    | nil => exact absurd rfl hne
    | cons k ks => simp
   obtain ⟨c, ty, h1, h2, h3⟩ := H.blk id _ hb hne'
   have hlk : 0 < ks.length := List.length_pos_iff.2 hne
   rcases hX with rfl | ⟨_, h0, _⟩
   case inr => omega
   have hN : ks.length ≤ 140737488355328 := by
    have := joinS_wt hne
    have h4 := len_wt ks
    omega
   have hcells : ∀ (j : Nat) x, (ks.map mkS)[j]? = some x → w.cell? ⟨ι id, 0 + j, none⟩ = some (.string x) := by
    intro j x hx
    rw [List.getElem?_map] at hx
    cases hk : ks[j]? with
    | none => rw [hk] at hx; simp at hx
    | some k =>
      rw [hk] at hx
      simp at hx
      subst hx
      have hj : j < ks.length := (List.getElem?_eq_some_iff.1 hk).1
      have hd : (ks.map (fun k => Cell.p (.v (.string (mkS k)))) ++ T)[j]? = some (.p (.v (.string (mkS k)))) := by
       rw [List.getElem?_append_left (by simpa using hj), List.getElem?_map, hk]; rfl
      have hlt : j < c.size := by rw [h2]; simp; omega
      have hr := h3 j _ _ hd (Array.getElem?_eq_getElem hlt)
      have := rav_v_inv (.one hr)
      simp only [World.cell?, h1, Nat.zero_add, Array.getElem?_eq_getElem hlt, this]
      rfl
   have hj := Tryz.strings_Join (ι id) 0 cap (ks.map mkS) ⟨#[47]⟩ w hcells (H.lt hb hne') (by simpa using hN) (by simpa using hcap)
   have e1 : (ks.map mkS).map (·.data.toList) = ks := by
    rw [List.map_map]
    have : ((fun x : ByteArray => x.data.toList) ∘ mkS) = fun x => x := by funext x; rfl
    rw [this]; simp
   rw [e1] at hj
   have e2 : Lib.join ks (⟨#[47]⟩ : ByteArray).data.toList = joinS ks := libJoin_eq ks
   rw [e2] at hj
   have hj := hj (by omega)
   rw [List.length_map] at hj
   refine hj.mono ?_
   rintro e w' ⟨rfl, hB⟩
   exact ⟨_, rfl, hB, rav_v _⟩
abbrev sB (s : ByteArray) : Blk := ⟨0, [.p (.v (.string s))]⟩
abbrev iB (n : Int) : Blk := ⟨0, [.p (.v (.int .i64 n))]⟩
theorem splitSeq_ok (s sep : ByteArray) (n : Int) (h : Heap) (b : Nat) : ACalls Tryz.prog 177 [StrB s, StrB sep, IntV n] h b 3
  (fun r h' => r = .one (.clo (.func 204) [] [.ptr (b + 1) 0 0, .ptr b 0 0, .ptr (b + 2) 0 0]) ∧ h' = upd (upd (upd h b (sB s)) (b + 1) (sB sep)) (b + 2) (iB n)) := by
 refine ACalls.enter Tryz.func177 rfl (by simp [Tryz.ntmps177]) (fun ι w hn H => ?_)
 refine Rk ?_
 refine Rk ?_
 refine AWP.ret ?_
 refine Ends.all rfl (by rw [show Tryz.f177.results.toList = [.tmp 6] from rfl]; exact Ec) ⟨rfl, rfl⟩
theorem SplitSeq_ok (s sep : ByteArray) (h : Heap) (b : Nat) : ACalls Tryz.prog 132 [StrB s, StrB sep] h b 3
  (fun r h' => r = .one (.clo (.func 204) [] [.ptr (b + 1) 0 0, .ptr b 0 0, .ptr (b + 2) 0 0]) ∧ h' = upd (upd (upd h b (sB s)) (b + 1) (sB sep)) (b + 2) (iB 0)) := by
 refine ACalls.enter Tryz.func132 rfl (by simp [Tryz.ntmps132]) (fun ι w hn H => ?_)
 refine Rk ?_
 refine Rg (fun E K hE hK => ?_)
 refine Us (splitSeq_ok s sep 0 _ _) body_177 ?_
 refine hK _ _ _ ?_; clear hE hK K E
 refine AWP.ret ?_
 refine Ends.all rfl (by rw [show Tryz.f132.results.toList = [.tmp 4] from rfl]; exact Ec) ⟨rfl, rfl⟩
theorem indexByte_none {l : S} (h : (47 : UInt8) ∉ l) : Lib.indexByte l 47 = -1 := by
 induction l with
 | nil => rfl
 | cons c l ih =>
   simp only [List.mem_cons, not_or] at h
   unfold Lib.indexByte
   rw [if_neg (by simpa using fun e => h.1 e.symm), ih h.2]; rfl
theorem indexByte_some {p l : S} (h : (47 : UInt8) ∉ p) : Lib.indexByte (p ++ 47 :: l) 47 = p.length := by
 induction p with
 | nil => rfl
 | cons c p ih =>
   simp only [List.mem_cons, not_or] at h
   rw [List.cons_append]
   unfold Lib.indexByte
   rw [if_neg (by simpa using fun e => h.1 e.symm), ih h.2, if_neg (by simp)]
   simp
theorem parts_cut (l : S) : ((47 : UInt8) ∉ l ∧ parts l = [l]) ∨ ∃ p r, l = p ++ 47 :: r ∧ (47 : UInt8) ∉ p ∧ parts l = p :: parts r := by
 induction l with
 | nil => exact .inl ⟨by simp, rfl⟩
 | cons c l ih =>
   by_cases hc : c = 47
   ·subst hc; exact .inr ⟨[], l, rfl, by simp, parts_sl l⟩
   ·rcases ih with ⟨h1, h2⟩ | ⟨p, r, rfl, h1, h2⟩
    ·exact .inl ⟨by simp only [List.mem_cons, not_or]; exact ⟨fun e => hc e.symm, h1⟩, parts_cons hc h2⟩
    ·exact .inr ⟨c :: p, r, rfl, by simp only [List.mem_cons, not_or]; exact ⟨fun e => hc e.symm, h1⟩, parts_cons hc h2⟩
structure SeqC (bp bs bq : Nat) (rest : S) (h : Heap) : Prop where
 p : h bp = some (sB ⟨#[47]⟩)
 s : h bs = some (sB (mkS rest))
 q : h bq = some (iB 0)
def seqI (l bp bs bq b : Nat) (l0 : S) (J : List S → Heap → Prop) (d : List S) (rest : S) (s : St) : Prop :=
 s.n = 0 ∧ s.t 0 = .one (.p (.v (.func (.yield l) #[] #[]))) ∧ s.t 1 = .one (.ptr bp 0 0) ∧ s.t 2 = .one (.ptr bs 0 0) ∧ s.t 3 = .one (.ptr bq 0 0) ∧ parts l0 = d ++ parts rest ∧ J d s.h ∧ SeqC bp bs bq rest s.h ∧ rest.length ≤ 1000
theorem res0 (tmps : Array Value) (w : World) : (results Tryz.f204 tmps).run Tryz.prog w = .ok (.tuple #[]) w := by
 rw [results_eq, show Tryz.f204.results = #[] from rfl]
 simp
theorem seq_iter {J : List S → Heap → Prop} {JS : Heap → Prop} {b bp bs bq : Nat} {h0 : Heap} {ι : Nat → Nat} {w2 : World} {vs : List Value} {l : Nat} {r r' : Loop} {pp : Tmp} (l0 : S)
  (hsz : l0.length ≤ 1000) (hlt : bp < b ∧ bs < b ∧ bq < b) (hne : bp ≠ bs ∧ bq ≠ bs) (hbd : ∀ id, b ≤ id → h0 id = none) (H : HeapOK ι h0 b w2)
  (ha : RAVs ι h0 b w2 ([Cell.ptr bp 0 0, .ptr bs 0 0, .ptr bq 0 0].map .one) vs) (hl : w2.heap[l]? = some (.loop r)) (hpar : r.params = #[pp])
  (hJ0 : J [] h0) (hc0 : SeqC bp bs bq l0 h0) (hJu : ∀ d h x, J d h → J d (upd h bs x))
  (hround : ∀ d p more rest, parts l0 = d ++ p :: more → ∀ h1, J d h1 → SeqC bp bs bq rest h1 → ∀ ι1 w1, Post ι h0 b w2 0 ι1 h1 w1 → w1.heap[l]? = some (.loop r) →
   RoundIn Fence.wide 0 Tryz.prog l r.fn (r.tmps.setIfInBounds pp (.string (mkS p))) r.assign r.body w1 (fun e w' => ∃ v h' ι', e = .returned (.bool v) ∧ Post ι1 h1 b w1 0 ι' h' (w'.putObj l (.loop r)) ∧
    (v = true → (J (d ++ [p]) h' ∧ SeqC bp bs bq rest h') ∧ w'.heap[l]? = some (.loop r)) ∧ (v = false → JS h' ∧ w'.heap[l]? = some (.loop r')))) :
  CallsIn Fence.wide 0 Tryz.prog 204 (#[.func (.yield l) #[] #[]] ++ vs.toArray) w2 (fun e w3 => ∃ v, e = .returned v ∧
    ((∃ h' ι', J (parts l0) h' ∧ Post ι h0 b w2 0 ι' h' w3 ∧ w3.heap[l]? = some (.loop r)) ∨ (∃ h' ι', JS h' ∧ Post ι h0 b w2 0 ι' h' (w3.putObj l (.loop r)) ∧ w3.heap[l]? = some (.loop r')))) := by
 have ha' : RAVs ι h0 b w2 [.one (.p (.v (.func (.yield l) #[] #[]))), .one (.ptr bp 0 0), .one (.ptr bs 0 0), .one (.ptr bq 0 0)] (.func (.yield l) #[] #[] :: vs) := by
  refine ⟨by have := ha.1; simpa using this, fun i c u hc hu => ?_⟩
  match i with
  | 0 => simp at hc hu; subst hc; subst hu; exact rav_v _
  | i + 1 => exact ha.2 i c u (by simpa using hc) (by simpa using hu)
 have eargs : #[Value.func (.yield l) #[] #[]] ++ vs.toArray = (Value.func (.yield l) #[] #[] :: vs).toArray := by simp
 rw [eargs]
 refine callsIn_of_wp Tryz.func204 rfl trivial ?_
 generalize hE : (fun (a' : Act) (w' : World) => a'.defers = [] ∧ ∃ h' ι', JS h' ∧ Post ι h0 b w2 0 ι' h' (w'.putObj l (.loop r)) ∧ w'.heap[l]? = some (.loop r')) = E
 have I := Inv.args (N := Tryz.f204.ntmps) (x := ⟨[], none, E⟩) (by simp [Tryz.ntmps204]) hbd H ha'
 have hlow := H.lowCells
 -- left by the way out
 have out : ∀ a' w', E a' w' → bodyPost Tryz.prog Tryz.f204 (fun e w3 => ∃ v, e = .returned v ∧ ((∃ h' ι', J (parts l0) h' ∧ Post ι h0 b w2 0 ι' h' w3 ∧ w3.heap[l]? = some (.loop r)) ∨ (∃ h' ι', JS h' ∧ Post ι h0 b w2 0 ι' h' (w3.putObj l (.loop r)) ∧ w3.heap[l]? = some (.loop r')))) .ret a' w' := by
  rintro a' w' he
  rw [← hE] at he
  exact ⟨he.1, .tuple #[], res0 _ _, _, rfl, .inr he.2⟩
 have hx : ∀ d p more rest, parts l0 = d ++ p :: more → ∀ h1 t, J d h1 → SeqC bp bs bq rest h1 → Rnd Tryz.prog ⟨Tryz.f204.ntmps, b, ι, h0, w2, ⟨[], none, E⟩⟩ l r pp (mkS p) ⟨t, h1, 0⟩ (fun h' => J (d ++ [p]) h' ∧ SeqC bp bs bq rest h')
   (fun w' => ∃ h' ι', JS h' ∧ Post ι h0 b w2 0 ι' h' (w'.putObj l (.loop r)) ∧ w'.heap[l]? = some (.loop r')) :=
  fun d p more rest hp h1 t hJ hc => rnd_of H hl hpar (hround d p more rest hp h1 hJ hc)
 refine wpIn_seq (wpIn_mono ((show AWP Tryz.prog ⟨Tryz.f204.ntmps, b, ι, h0, w2, ⟨[], none, E⟩⟩ _ (fun e s => e = .normal ∧ seqI l bp bs bq b l0 J [] l0 s) _ from ?first) _ w2 ι I) ?_)
 case first =>
  refine Rkf @hc0.p ?_
  refine AWP.ifF (by exact Er) ?_
  refine AWP.skip ⟨rfl, ?_⟩
  exact ⟨rfl, rfl, rfl, rfl, rfl, rfl, hJ0, hc0, hsz⟩
 rintro e a1 w1 (⟨s1, ι1, ⟨rfl, hs1⟩, I1⟩ | ⟨rfl, he⟩)
 case inr => exact out _ _ he
 refine wpIn_seq (wpIn_mono ((show AWP Tryz.prog ⟨Tryz.f204.ntmps, b, ι, h0, w2, ⟨[], none, E⟩⟩ _ (fun e s => e = .normal ∧ ∃ d rest, seqI l bp bs bq b l0 J d rest s ∧ (47 : UInt8) ∉ rest) _ from ?loop) _ w1 ι1 I1) ?_)
 case loop =>
  refine AWP.block ?_
  refine AWP.loopK 0 (fun m s => ∃ d rest, m = rest.length ∧ seqI l bp bs bq b l0 J d rest s) l0.length hs1.1 ⟨[], l0, rfl, hs1⟩ ?_
  rintro m ⟨t, hh, n⟩ ⟨d, rest, rfl, hn0, e0, e1, e2, e3, hp, hJ, hc, hsz1⟩ hn
  simp only at hn0 e0 e1 e2 e3 hJ hc
  subst hn0
  refine AWP.block ?_
  refine Rgf (jn4 @e1 @e2 @hc.p @hc.s) (fun E K hE hK => ?_)
  refine Us (index_ok (mkS rest) _ _) body_206 ?_
  refine hK _ _ _ ?_; clear hE hK K E
  refine AWP.seq ?_
  refine Rk ?_
  have sl : (mkS rest).data.toList = rest := rfl
  rcases parts_cut rest with ⟨h1, h2⟩ | ⟨p, q, rfl, h1, h2⟩
  ·refine AWP.ifT (by (first | (simp -implicitDefEqProofs only [go_sem, ↓reduceIte, Nat.reduceEqDiff, Nat.reduceAdd, Nat.reduceLT, Nat.reduceLeDiff, reduceCtorEq, Int.toNat_natCast, sl, indexByte_none h1]; first | done | rfl) | rfl)) ?_
   refine AWP.exit ?_
   refine Ev ?_
   exact ⟨d, rest, ⟨rfl, by exact Ecf @e0, by exact Ecf @e1, by exact Ecf @e2, by exact Ecf @e3, hp, hJ, hc, hsz1⟩, h1⟩
  ·refine AWP.ifF (by simp -implicitDefEqProofs only [go_sem, ↓reduceIte, Nat.reduceEqDiff, Nat.reduceAdd, Nat.reduceLT, Nat.reduceLeDiff, reduceCtorEq, Int.toNat_natCast, sl, indexByte_some h1]; simp) ?_
   refine AWP.skip ?_
   refine Ev ?_
   have hpl : p.length ≤ 1000 := by rw [List.length_append] at hsz1; omega
   have hw0 : IntKind.i64.wrap ((p.length : Int) + 0) = p.length := by rw [wrap_i64 (by omega) (by omega)]; omega
   have hw1 : IntKind.i64.wrap ((p.length : Int) + 1) = ((p.length + 1 : Nat) : Int) := by rw [wrap_i64 (by omega) (by omega)]; omega
   have hx0 : (mkS (p ++ 47 :: q)).extract 0 p.length = mkS p := by rw [mkS_extract]; simp
   have hx1 : (mkS (p ++ 47 :: q)).extract (p.length + 1) (mkS (p ++ 47 :: q)).size = mkS q := by
    rw [mkS_extract, mkS_size]
    congr 1
    rw [show p ++ 47 :: q = (p ++ [47]) ++ q by simp, List.drop_append_of_le_length (by simp), List.drop_eq_nil_of_le (by simp), List.nil_append]
    exact List.take_of_length_le (by simp; omega)
   have hs47 : (((#[(47 : UInt8)] : Array UInt8).size : Nat) : Int) = 1 := rfl
   have hlt0 : ¬ ((mkS (p ++ 47 :: q)).size : Int) < p.length := by rw [mkS_size, List.length_append]; omega
   refine AWP.seqReg (by kernel_rfl) (fun E K hE hK => ?_); simp -implicitDefEqProofs only [go_sem, ↓reduceIte, Nat.reduceEqDiff, Nat.reduceAdd, Nat.reduceLT, Nat.reduceLeDiff, reduceCtorEq, Int.toNat_natCast, e0, e1, e2, e3, hc.p, hc.s, hc.q, sl, indexByte_some h1, hw0, hx0]
   refine ⟨rfl, ⟨by omega, by omega⟩, ?_⟩
   refine hK _ _ _ ?_; clear hE hK K E
   refine AWP.seq ?_
   have hp' : parts l0 = d ++ p :: parts q := by rw [hp, h2]
   refine AWP.seqYield (l := l) (r0 := r) (pp := pp) (p := mkS p) (HS := fun h' => J (d ++ [p]) h' ∧ SeqC bp bs bq (p ++ 47 :: q) h') (EX := fun w' => ∃ h' ι', JS h' ∧ Post ι h0 b w2 0 ι' h' (w'.putObj l (.loop r)) ∧ w'.heap[l]? = some (.loop r')) rfl rfl ?_ ?_ ?_ ?_ (fun t => hx d p (parts q) _ hp' hh t hJ hc) (fun a' w' hd hex => ?_) ?_
   ·simp [Tryz.ntmps204]
   ·decide
   ·exact Ecf @e0
   ·exact Ec
   ·show E a' w'
    rw [← hE]
    exact ⟨hd, hex⟩
   rintro h' ⟨hJ', hc'⟩
   refine Ev ?_
   refine Raf (jn4 @e0 @e1 @e2 (jn7 @e3 @hc'.p @hc'.s @hc'.q @hs47 @hw1 @hx1)) (fun E K hE hK => ?_)
   refine ⟨rfl, ⟨by omega, by rw [mkS_size]; simp; omega⟩, ?_⟩
   refine hK _ _ _ ?_; clear hE hK K E
   refine ⟨rfl, _, ?_, d ++ [p], q, rfl, rfl, by exact Ecf @e0, by exact Ecf @e1, by exact Ecf @e2, by exact Ecf @e3, ?_, hJu _ _ _ hJ', ⟨?_, ?_, ?_⟩, ?_⟩
   ·simp; omega
   ·rw [hp']; simp
   ·exact Ecf (jn2 (hne.1) @hc'.p)
   ·exact Ec
   ·exact Ecf (jn2 (hne.2) @hc'.q)
   ·rw [List.length_append] at hsz1; simp at hsz1; omega
 rintro e a2 w2' (⟨s2, ι2, ⟨rfl, d, rest, hs2, hno⟩, I2⟩ | ⟨rfl, he⟩)
 case inr => exact out _ _ he
 obtain ⟨hn0, e0, e1, e2, e3, hp, hJ, hc, hsz1⟩ := hs2
 show (Code.wpIn Fence.wide 0 Tryz.prog _ _ a2 w2')
 refine wpIn_mono (yield_last (HS := fun h' => J (d ++ [rest]) h' ∧ SeqC bp bs bq rest h') (EX := fun w' => ∃ h' ι', JS h' ∧ Post ι h0 b w2 0 ι' h' (w'.putObj l (.loop r)) ∧ w'.heap[l]? = some (.loop r')) (x := mkS rest) (l := l) (r0 := r) (pp := pp) (C := ⟨Tryz.f204.ntmps, b, ι, h0, w2, ⟨[], none, E⟩⟩) rfl rfl hn0 ?_ ?_ ?_ ?_ ?_ I2) ?_
 ·simp [Tryz.ntmps204]
 ·decide
 ·exact e0
 ·exact Ecf (jn2 @e2 @hc.s)
 ·intro t
  have := hx d rest [] rest (by rw [hp, parts_one hno]) s2.h t hJ hc
  exact this
 ·rintro e a3 w3 ⟨rfl, hd, hh⟩
  refine ⟨hd, .tuple #[], res0 _ _, _, rfl, ?_⟩
  rcases hh with ⟨h', ι', ⟨hJ', _⟩, hpost⟩ | hex
  ·refine .inl ⟨h', ι', ?_, hpost, ?_⟩
   ·rw [hp, parts_one hno]; exact hJ'
   ·rw [← hl]
    exact hpost.keeps.old l (stab_rec H hl (noCells_loop r)) (Array.getElem?_eq_some_iff.1 hl).1
  ·exact .inr hex
theorem octet_ok (c : UInt8) (h : Heap) (b : Nat) : ACalls Tryz.prog 176 [U8V c] h b 0 (fun r h' => r = BoolV (octB c) ∧ h' = h) := by
 refine ACalls.enter Tryz.func176 rfl (by simp [Tryz.ntmps176]) (fun ι w hn H => ?_)
 have fin : ∀ (t : Nat → AV) (n : Nat) (v : Bool), t 2 = BoolV v → v = octB c → Am.Ends Tryz.prog ⟨Tryz.f176.ntmps, b, ι, h, w, x0⟩ Tryz.f176 0 (fun r h' => r = BoolV (octB c) ∧ h' = h) ⟨t, h, n⟩ := by
  intro t n v ht hv
  exact Ends.pure hn H (fun _ _ => rfl) (r0 := BoolV v) (by rw [show Tryz.f176.results.toList = [.tmp 2] from rfl]; exact Ecf @ht) (.v _) ⟨by rw [hv], rfl⟩
 refine Rk ?_
 have hs : ((strAt ⟨#[47]⟩ (Int.toNat 0) : Int)) = 47 := rfl
 have h47 : ((c.toNat : Int) = 47) ↔ (c = 47) := by rw [← UInt8.toNat_inj]; have : (47 : UInt8).toNat = 47 := rfl; omega
 refine Rgf @hs (fun E K hE hK => ?_)
 refine ⟨by decide, ⟨fun h1 => ?_, fun h1 => ?_⟩⟩
 ·refine hK _ _ _ ?_; clear hE hK K E
  refine AWP.ret (fin _ _ true (by exact Ec) ?_)
  have : c = 47 := h47.1 (by simpa using h1)
  subst this; rfl
 ·have h1' : ¬ c = 47 := fun e => by rw [h47.2 e] at h1; simp at h1
  have h3 : (c == 47) = false := by simpa using h1'
  refine ⟨fun h2 => ?_, fun h2 => ?_⟩
  ·refine hK _ _ _ ?_; clear hE hK K E
   refine AWP.ret (fin _ _ _ (by exact Er) ?_)
   unfold octB
   rw [h3, Bool.false_or]
   have h2 : 32 < c.toNat := by have := of_decide_eq_true h2; omega
   rw [decide_eq_true h2, Bool.true_and]
   exact decide_eq_decide.2 (by omega)
  ·refine hK _ _ _ ?_; clear hE hK K E
   refine AWP.ret (fin _ _ _ (by exact Er) ?_)
   unfold octB
   rw [h3, Bool.false_or]
   have h2 : ¬ 32 < c.toNat := by have := of_decide_eq_false h2; omega
   rw [decide_eq_false h2, Bool.false_and]
def fitI (s : ByteArray) (h : Heap) (i : Nat) (st : St) : Prop :=
 st.h = h ∧ st.t 0 = StrB s ∧ st.t 8 = IntV s.size ∧ st.t 9 = IntV i ∧ ∀ c ∈ (bl s).take i, octB c = true
theorem strAt_get (s : ByteArray) (i : Nat) (hi : i < s.size) : ∃ c, (bl s)[i]? = some c ∧ strAt s i = (c.toNat : Int) := by
 have hl : i < (bl s).length := by rw [Array.length_toList]; exact hi
 refine ⟨(bl s)[i], List.getElem?_eq_getElem hl, ?_⟩
 unfold strAt
 rw [List.getD_eq_getElem?_getD, List.getElem?_eq_getElem hl]; rfl
theorem fits_ok (s : ByteArray) (h : Heap) (b : Nat) : ACalls Tryz.prog 131 [StrB s] h b 0 (fun r h' => r = IntV (fitsX (bl s)) ∧ h' = h) := by
 refine ACalls.enter Tryz.func131 rfl (by simp [Tryz.ntmps131]) (fun ι w hn H => ?_)
 have hlow := H.lowCells
 have hlen : (bl s).length = s.size := Array.length_toList
 have fin : ∀ (t : Nat → AV) (n : Nat) (v : Int), t 2 = IntV v → v = fitsX (bl s) → Am.Ends Tryz.prog ⟨Tryz.f131.ntmps, b, ι, h, w, x0⟩ Tryz.f131 0 (fun r h' => r = IntV (fitsX (bl s)) ∧ h' = h) ⟨t, h, n⟩ := by
  intro t n v ht hv
  exact Ends.pure hn H (fun _ _ => rfl) (r0 := IntV v) (by rw [show Tryz.f131.results.toList = [.tmp 2] from rfl]; exact Ecf @ht) (.v _) ⟨by rw [hv], rfl⟩
 refine Rk ?_
 refine AWP.seq ?_
 refine Rk ?_
 by_cases h1 : (96 : Int) < s.size
 ·refine Btf @h1 ?_
  refine Rk ?_
  refine AWP.ret ?_
  refine Ev ?_
  exact fin _ _ 3 (by exact Ec) (by unfold fitsX; rw [if_pos (by omega)])
 ·refine Bsf @h1 ?_
  refine AWP.seq ?_
  refine Rk ?_
  refine AWP.block ?_
  refine AWP.loopK 0 (fun m st => ∃ i, i ≤ s.size ∧ m = s.size - i ∧ fitI s h i st) s.size rfl ⟨0, Nat.zero_le _, rfl, rfl, by exact Ec, by exact Ec, by exact Er, by simp⟩ ?_
  rintro m ⟨t, hh, n⟩ ⟨i, hi, rfl, rfl, e0, e8, e9, hok⟩ hn1
  simp only at e0 e8 e9 hn1
  subst hn1
  refine Rkf (jn3 @e0 @e8 @e9) ?_
  by_cases hlt : (i : Int) < s.size
  ·refine AWP.seq ?_
   refine Btf @hlt ?_
   refine AWP.skip ?_
   refine Ev ?_
   refine AWP.seq ?_
   refine AWP.block ?_
   refine Rkf (jn3 @e0 @e8 @e9) ?_
   obtain ⟨c, hc1, hc2⟩ := strAt_get s i (by omega)
   refine Rgf (jn4 @e0 @e8 @e9 @hc2) (fun E K hE hK => ?_)
   refine ⟨⟨by omega, by omega⟩, ?_⟩
   refine Us (octet_ok c _ _) body_176 ?_
   refine hK _ _ _ ?_; clear hE hK K E
   by_cases ho : octB c = true
   ·refine Bsf @ho ?_
    refine Raf @e9 (fun E K hE hK => ?_); refine hK _ _ _ ?_; clear hE hK K E
    refine ⟨rfl, s.size - (i + 1), by omega, i + 1, by omega, rfl, rfl, by exact Ecf @e0, by exact Ecf @e8, ?_, ?_⟩
    ·refine Ev ?_; rw [wrap_i64 (by omega) (by omega)]; rfl
    ·intro x hx
     rw [List.take_add_one, hc1] at hx
     rcases List.mem_append.1 hx with hx | hx
     ·exact hok x hx
     ·simp at hx; subst hx; exact ho
   ·have ho : octB c = false := by simpa using ho
    refine Btf @ho ?_
    refine Rk ?_
    refine AWP.ret ?_
    refine Ev ?_
    refine fin _ _ 2 (by exact Ec) ?_
    unfold fitsX
    rw [if_neg (by omega), if_neg]
    intro hall
    have := List.all_eq_true.1 hall c (List.mem_of_getElem? hc1)
    rw [ho] at this; cases this
  ·refine AWP.seq ?_
   refine Bff @hlt ?_
   refine AWP.exit ?_
   refine Ev ?_
   refine Rk ?_
   refine AWP.ret ?_
   refine Ev ?_
   refine fin _ _ 0 (by exact Ec) ?_
   have : i = s.size := by omega
   subst this
   rw [← hlen, List.take_length] at hok
   unfold fitsX
   rw [if_neg (by omega), if_pos (List.all_eq_true.2 hok)]
abbrev strC (k : S) : Cell := .p (.v (.string (mkS k)))
def clnJ (h : Heap) (b : Nat) (d : List S) (hh : Heap) : Prop :=
 ∃ ver cap ks T, goC [] d = some ks ∧ hh (b + 2) = some ⟨0, [.win (b + 3) ver 0 ks.length cap]⟩ ∧ hh (b + 3) = some ⟨ver, ks.map strC ++ T⟩ ∧ ks.length + T.length = cap ∧ lowCs 0 T = true ∧
   hh b = some (sB (mkS [])) ∧ hh (b + 1) = some (iB 0) ∧ (∀ id, id < b → hh id = h id)
def clnS (h : Heap) (b : Nat) (l : S) (hh : Heap) : Prop := goC [] (parts l) = none ∧ hh b = some (sB (mkS [])) ∧ hh (b + 1) = some (iB 4) ∧ (∀ id, id < b → hh id = h id)
theorem empty_mkS : ByteArray.empty = mkS [] := rfl
theorem nil_mkS : (⟨#[]⟩ : ByteArray) = mkS [] := rfl
theorem toL1 (c : UInt8) : (#[c] : Array UInt8).toList = [c] := rfl
theorem toL2 (c d : UInt8) : (#[c, d] : Array UInt8).toList = [c, d] := rfl
theorem toL0 : (#[] : Array UInt8).toList = [] := rfl
theorem Clean_ok (s : ByteArray) (h : Heap) (b : Nat) : ACalls Tryz.prog 79 [StrB s] h b 0 (fun r h' => r = .tup [StrV (cleanX (bl s)).1, IntV (cleanX (bl s)).2] ∧ h' = h) := by
 refine ACalls.enterM Tryz.func79 rfl (by simp [Tryz.ntmps79]) (fun ι w hn H => ?_)
 have hlow := H.lowCells
 generalize hC : (⟨Tryz.f79.ntmps, b, ι, h, w, ⟨[], none, EM Tryz.prog Tryz.f79 0 (fun r h' => r = .tup [StrV (cleanX (bl s)).1, IntV (cleanX (bl s)).2] ∧ h' = h) ι h b w⟩⟩ : Ctx) = C
 have fin : ∀ (t : Nat → AV) (hh : Heap) (n : Nat) (v : S × Int), t 2 = .one (.ptr b 0 0) → t 3 = .one (.ptr (b + 1) 0 0) → hh b = some (sB (mkS v.1)) → hh (b + 1) = some (iB v.2) → (∀ id, id < b → hh id = h id) → v = cleanX (bl s) →
   Am.Ends Tryz.prog C Tryz.f79 0 (fun r h' => r = .tup [StrV (cleanX (bl s)).1, IntV (cleanX (bl s)).2] ∧ h' = h) ⟨t, hh, n⟩ := by
  intro t hh n v e2 e3 h2 h3 ho hv
  subst hC
  subst hv
  exact Ends.pure hn H ho (r0 := .tup [StrV (cleanX (bl s)).1, IntV (cleanX (bl s)).2]) (by rw [show Tryz.f79.results.toList = [.cell 2 9, .cell 3 41] from rfl]; exact Ecf (jn4 @e2 @e3 @h2 @h3)) (frz_tup2 (.v _) (.v _)) ⟨rfl, rfl⟩
 subst hC
 refine Rk ?_
 refine AWP.seq ?_
 refine Rg (fun E K hE hK => ?_)
 refine Us (fits_ok s _ _) body_131 ?_
 refine hK _ _ _ ?_; clear hE hK K E
 refine Rk ?_
 by_cases h1 : fitsX (bl s) = 0
 ·refine Bsf @h1 ?_
  refine Rk ?_
  refine AWP.virtH (b + 2) 0 (by simp) (by exact Er) rfl ?_
  refine Ev ?_
  refine AWP.rangeBlk (gf := 204) (caps := [.ptr (b + 5) 0 0, .ptr (b + 4) 0 0, .ptr (b + 6) 0 0]) (Hdone := clnJ h b (parts (bl s))) (Hstop := clnS h b (bl s)) rfl ?_
  refine Ra (fun E K hE hK => ?_)
  refine Us (SplitSeq_ok s ⟨#[47]⟩ _ _) body_132 ?_
  simp only [Nat.add_assoc, Nat.reduceAdd]
  refine hK _ _ _ ?_; clear hE hK K E
  refine ⟨rfl, ⟨?_, body_204, ?_, ?_, ?_⟩⟩
  ·exact Ec
  ·intro fnid D l w2 ι2 a vs I hvs hl
   refine seq_iter (J := clnJ h b) (JS := clnS h b (bl s)) (b := b + 7) (bp := b + 5) (bs := b + 4) (bq := b + 6) (r' := ⟨.done, some .ret, fnid, a.tmps, #[14], _, _, D⟩) (bl s) (by have := (fitsX_eq.1 h1).1; omega) ⟨by omega, by omega, by omega⟩ ⟨by omega, by omega⟩ (fun id hid => I.bound id hid) I.heap hvs hl rfl ?_ ?_ ?_ ?_
   ·refine ⟨0, 0, [], [], rfl, ?_, ?_, rfl, rfl, ?_, ?_, ?_⟩
    ·exact Er
    ·exact Er
    ·exact Ecf @empty_mkS
    ·exact Er
    ·exact Ou
   ·exact ⟨by exact Er, by rw [mkS_of]; exact Er, by exact Er⟩
   ·rintro d hh x ⟨ver, cap, ks, T, g1, g2, g3, g4, g5, g6, g7, g8⟩
    exact ⟨ver, cap, ks, T, g1, by rw [upd_ne _ _ _ _ (by omega)]; exact g2, by rw [upd_ne _ _ _ _ (by omega)]; exact g3, g4, g5, by rw [upd_ne _ _ _ _ (by omega)]; exact g6, by rw [upd_ne _ _ _ _ (by omega)]; exact g7, fun id hid => by rw [upd_ne _ _ _ _ (by omega)]; exact g8 id hid⟩
   ·intro d p more rest hp hh1 hJ hc ι1 w1 hpost hl1
    refine round_ok (mkS p) I hpost hl1 (by simp [Tryz.ntmps79]) (by simp [Tryz.ntmps79]) (fun w' H' => ?_)
    obtain ⟨ver, cap, ks, T, g1, g2, g3, g4, g5, g6, g7, g8⟩ := hJ
    refine Ev ?_
    have sl : (mkS p).data.toList = p := rfl
    have gst : goC [] (d ++ [p]) = stepC ks p := by
     rw [goC_app, g1]
     show goC ks [p] = _
     unfold goC
     cases stepC ks p <;> rfl
    -- on: nothing of it turns
    have keep : ∀ hh, (∀ id, id < b + 7 → hh id = hh1 id) → ∀ id, id < b + 7 → cutH (b + 7) hh id = hh1 id := fun hh e => cutH_outer (Nat.le_refl _) e (fun id blk hb => H'.lowCells id blk hb)
    have same : ∀ hh, (∀ id, id < b + 7 → hh id = hh1 id) → stepC ks p = some ks → clnJ h b (d ++ [p]) (cutH (b + 7) hh) ∧ SeqC (b + 5) (b + 4) (b + 6) rest (cutH (b + 7) hh) := by
     intro hh e hs
     have k := keep hh e
     refine ⟨⟨ver, cap, ks, T, by rw [gst, hs], by rw [k _ (by omega)]; exact g2, by rw [k _ (by omega)]; exact g3, g4, g5, by rw [k _ (by omega)]; exact g6, by rw [k _ (by omega)]; exact g7, fun id hid => by rw [k _ (by omega)]; exact g8 id hid⟩, ⟨by rw [k _ (by omega)]; exact hc.p, by rw [k _ (by omega)]; exact hc.s, by rw [k _ (by omega)]; exact hc.q⟩⟩
    have hkw := (goC_inv g1).2
    have hkn := len_wt ks
    have hwp := joinS_wt (parts_ne (bl s))
    rw [joinS_parts] at hwp
    have hls := (fitsX_eq.1 h1).1
    have hwd : wt d ≤ wt (parts (bl s)) := by rw [hp, wt_app]; omega
    simp only [wt] at hkw
    refine AWP.block ?_
    refine Rk ?_
    refine AWP.block ?_
    refine AWP.seq ?_
    refine Rk ?_
    by_cases p0 : p = []
    ·refine Btf (jn3 @mkS_list @p0 @toL0) ?_
     refine AWP.skip ?_
     refine Ev ?_
     refine Btf (jn3 @mkS_list @p0 @toL0) ?_
     refine AWP.skip ?_
     refine Ev ?_
     exact .inl (same _ (fun _ _ => rfl) (by subst p0; rfl))
    ·refine Bff (jn3 @mkS_list @p0 @toL0) ?_
     refine Ra (fun E K hE hK => ?_); refine hK _ _ _ ?_; clear hE hK K E
     refine Ev ?_
     by_cases p1 : p = [46]
     ·refine Btf (jn3 @mkS_list @p1 @toL1) ?_
      refine AWP.skip ?_
      refine Ev ?_
      exact .inl (same _ (fun _ _ => rfl) (by subst p1; rfl))
     ·refine Bff (jn3 @mkS_list @p1 @toL1) ?_
      refine Rk ?_
      by_cases p2 : p = [46, 46]
      ·refine Btf (jn3 @mkS_list @p2 @toL2) ?_
       refine AWP.seq ?_
       refine Rkf (jn2 @g2 @g3) ?_
       by_cases hk : ks = []
       ·subst hk
        refine Btf @int_c0 ?_
        refine Rkf (jn2 @g6 @g7) ?_
        refine AWP.ret ?_
        refine Ev ?_
        refine .inr ⟨?_, ?_, ?_, ?_⟩
        ·rw [hp, show d ++ p :: more = (d ++ [p]) ++ more by simp, goC_app, gst, p2]; rfl
        ·exact cutH_same (by omega) (by exact Ecf @nil_mkS) rfl
        ·exact cutH_same (by omega) (by exact Er) rfl
        ·exact cutH_outer (by omega) (Ouf @g8) hlow
       ·have hk2 : ¬ ((ks.length : Int) = 0) := by have := List.length_pos_iff.2 hk; omega
        refine Bsf @hk2 ?_
        have hkl := List.length_pos_iff.2 hk
        have hwm : IntKind.i64.wrap ((ks.length : Int) - 1) = ((ks.length - 1 : Nat) : Int) := by rw [wrap_i64 (by omega) (by omega)]; omega
        refine Raf (jn3 @g2 @g3 @hwm) (fun E K hE hK => ?_)
        refine ⟨⟨by omega, by omega⟩, ?_⟩
        refine hK _ _ _ ?_; clear hE hK K E
        refine Ev ?_
        obtain ⟨ks', q, rfl⟩ : ∃ ks' q, ks = ks' ++ [q] := ⟨ks.dropLast, ks.getLast hk, (List.dropLast_concat_getLast hk).symm⟩
        refine .inl ⟨⟨ver, cap, ks', strC q :: T, ?_, ?_, ?_, ?_, ?_, ?_, ?_, ?_⟩, ⟨?_, ?_, ?_⟩⟩
        ·rw [gst, p2]; simp [stepC]
        ·exact cutH_same (by omega) (by rw [List.length_append]; exact Er) (by simp [lowCs, lowC])
        ·exact cutH_same (by omega) (by refine Evf @g3 ?_; simp) (lowCs_app (lowCs_of fun c hcm => by obtain ⟨k, _, rfl⟩ := List.mem_map.1 hcm; rfl) (by simp only [lowCs, lowC, Bool.true_and]; exact lowCs_mono (Nat.zero_le _) g5))
        ·simp at g4 ⊢; omega
        ·simp only [lowCs, lowC, Bool.true_and]; exact g5
        ·exact cutH_same (by omega) (by exact Ecf @g6) rfl
        ·exact cutH_same (by omega) (by exact Ecf @g7) rfl
        ·exact cutH_outer (by omega) (fun id (hid : id < b) => by simp -implicitDefEqProofs only [go_sem, ↓reduceIte, Nat.reduceEqDiff, Nat.reduceAdd, Nat.reduceLT, Nat.reduceLeDiff, reduceCtorEq, Int.toNat_natCast, show ¬ id = b by omega, show ¬ id = b + 2 by omega, g8 id hid]) hlow
        ·exact cutH_same (by omega) (by exact Ecf @hc.p) rfl
        ·exact cutH_same (by omega) (by exact Ecf @hc.s) rfl
        ·exact cutH_same (by omega) (by exact Ecf @hc.q) rfl
      ·refine Bff (jn3 @mkS_list @p2 @toL2) ?_
       refine Raf (jn2 @g2 @g3) (fun E K hE hK => ?_)
       refine BiR.of ?_
       refine BiK.append_own (e := 9) (sz := 1) (bytes := 16) (m := 1) (xs := [strC p]) (blk := ⟨ver, ks.map strC ++ T⟩) ty_slE_42 ty_tsz_9 ty_tzero_9 rfl ty_tby_9 ty_isIntT_42 (by exact Ecf @g3) rfl
        (by simp; omega) (by (first | (simp -implicitDefEqProofs only [go_sem, ↓reduceIte, Nat.reduceEqDiff, Nat.reduceAdd, Nat.reduceLT, Nat.reduceLeDiff, reduceCtorEq, Int.toNat_natCast, srcA]; first | done | rfl) | rfl)) (by simp [okC, Value.oneCell']) (by omega) (by decide) (by omega) (fun cap' j q1 q2 => ?_)
       refine Evf (jn2 @g2 @g3) ?_
       refine hK _ _ _ ?_; clear hE hK K E
       refine Ev ?_
       have hst : stepC ks p = some (ks ++ [p]) := by unfold stepC; rw [if_neg (by simp [p0, p1]), if_neg p2]
       refine .inl ⟨⟨ver + 1, cap', ks ++ [p], List.replicate j .junk, ?_, ?_, ?_, ?_, ?_, ?_, ?_, ?_⟩, ⟨?_, ?_, ?_⟩⟩
       ·rw [gst, hst]
       ·exact cutH_same (by omega) (by rw [List.length_append]; exact Er) (by simp [lowCs, lowC])
       ·exact cutH_same (by omega) (by refine Ev ?_; simp) (lowCs_app (lowCs_of fun c hcm => by obtain ⟨k, _, rfl⟩ := List.mem_map.1 hcm; rfl) (lowCs_junk _ _))
       ·simp; omega
       ·exact lowCs_junk _ _
       ·exact cutH_same (by omega) (by exact Ecf @g6) rfl
       ·exact cutH_same (by omega) (by exact Ecf @g7) rfl
       ·exact cutH_outer (by omega) (fun id (hid : id < b) => by simp -implicitDefEqProofs only [go_sem, ↓reduceIte, Nat.reduceEqDiff, Nat.reduceAdd, Nat.reduceLT, Nat.reduceLeDiff, reduceCtorEq, Int.toNat_natCast, show ¬ id = b by omega, show ¬ id = b + 1 by omega, show ¬ id = b + 2 by omega, show ¬ id = b + 3 by omega, show ¬ id = b + 7 by omega, g8 id hid]) hlow
       ·exact cutH_same (by omega) (by exact Ecf @hc.p) rfl
       ·exact cutH_same (by omega) (by exact Ecf @hc.s) rfl
       ·exact cutH_same (by omega) (by exact Ecf @hc.q) rfl
  ·intro D h' ι' w4 hJ hb4 H4
   obtain ⟨ver, cap, ks, T, g1, g2, g3, g4, g5, g6, g7, g8⟩ := hJ
   refine Ev ?_
   refine AWP.seq ?_
   refine Rgf (jn2 @g2 @g3) (fun E K hE hK => ?_)
   refine hK _ _ _ ?_; clear hE hK K E
   have hcx : cleanX (bl s) = if ks = [] then ([], 1) else (joinS ks, 0) := by
    unfold cleanX
    rw [if_neg (by simp [h1]), g1]
    cases ks <;> rfl
   by_cases hk : ks = []
   ·subst hk
    refine Btf @int_c0 ?_
    refine Rkf (jn2 @g6 @g7) ?_
    refine AWP.ret ⟨rfl, ?_⟩
    refine Ev ?_
    refine fin _ _ _ ([], 1) (by exact Ec) (by exact Ec) (by exact Ecf @nil_mkS) (by exact Er) ?_ ?_
    ·exact (Ouf @g8)
    ·rw [hcx, if_pos rfl]
   ·have hk2 : ¬ ((ks.length : Int) = 0) := by have := List.length_pos_iff.2 hk; omega
    refine Bsf @hk2 ?_
    have hwk := (goC_inv g1).2
    have hj := joinS_wt hk
    have hwp := joinS_wt (parts_ne (bl s))
    rw [joinS_parts] at hwp
    have hls := (fitsX_eq.1 h1).1
    simp only [wt] at hwk
    refine Rgf (jn3 @g2 @g6 @g7) (fun E K hE hK => ?_)
    refine Us (join_ok ks T hk g3 (by omega) (by omega)) body_133 ?_
    refine Evf (jn2 @g6 @g7) ?_
    refine hK _ _ _ ?_; clear hE hK K E
    refine AWP.ret ⟨rfl, ?_⟩
    refine Ev ?_
    refine fin _ _ _ (joinS ks, 0) (by exact Ec) (by exact Ec) (by exact Er) (by exact Er) ?_ ?_
    ·exact (Ouf @g8)
    ·rw [hcx, if_neg hk]
  ·rintro h' ⟨g1, g2, g3, g4⟩
   refine fin _ h' _ ([], 4) (by exact Ec) (by exact Ec) g2 g3 g4 ?_
   unfold cleanX
   rw [if_neg (by simp [h1]), g1]
 ·refine Btf @h1 ?_
  refine Rk ?_
  refine AWP.ret ?_
  refine Ev ?_
  refine fin _ _ _ ([], fitsX (bl s)) (by exact Ec) (by exact Ec) (by exact Ecf @nil_mkS) (by exact Er) ?_ ?_
  ·exact Ou
  ·unfold cleanX; rw [if_pos h1]
theorem bl_len (s : ByteArray) : (bl s).length = s.size := Array.length_toList
theorem ext_drop (p : ByteArray) (k : Nat) : p.extract k p.size = mkS ((bl p).drop k) := by
 have := mkS_extract (bl p) k p.size
 rw [mkS_of] at this
 rw [this]
 have hlen : (bl p).length = p.size := Array.length_toList
 rw [List.take_of_length_le (by rw [List.length_drop]; omega)]
theorem Check_ok (s : ByteArray) (h : Heap) (b : Nat) : ACalls Tryz.prog 31 [StrB s] h b 0 (fun r h' => r = IntV (chkN (bl s)) ∧ h' = h) := by
 refine ACalls.enter Tryz.func31 rfl (by simp [Tryz.ntmps31]) (fun ι w hn H => ?_)
 have fin : ∀ (t : Nat → AV) (n : Nat) (v : Int), t 2 = IntV v → v = chkN (bl s) → Am.Ends Tryz.prog ⟨Tryz.f31.ntmps, b, ι, h, w, x0⟩ Tryz.f31 0 (fun r h' => r = IntV (chkN (bl s)) ∧ h' = h) ⟨t, h, n⟩ := by
  intro t n v ht hv
  exact Ends.pure hn H (fun _ _ => rfl) (r0 := IntV v) (by rw [show Tryz.f31.results.toList = [.tmp 2] from rfl]; exact Ecf @ht) (.v _) ⟨by rw [hv], rfl⟩
 refine Rk ?_
 refine AWP.seq ?_
 refine Rg (fun E K hE hK => ?_)
 refine Us (Clean_ok s _ _) body_79 ?_
 refine hK _ _ _ ?_; clear hE hK K E
 by_cases h1 : (cleanX (bl s)).2 = 0
 ·by_cases h2 : (cleanX (bl s)).1 = bl s
  ·refine Rgf (jn3 @h1 @h2 @mkS_list) (fun E K hE hK => ?_)
   refine hK _ _ _ ?_; clear hE hK K E
   refine Bs ?_
   refine Rk ?_
   refine AWP.ret ?_
   exact fin _ _ 0 (by exact Er) (by unfold chkN; rw [if_pos ⟨h1, h2⟩])
  ·refine Rgf (jn3 @h1 @h2 @mkS_list) (fun E K hE hK => ?_)
   refine hK _ _ _ ?_; clear hE hK K E
   refine Bt ?_
   refine Rk ?_
   refine AWP.ret ?_
   refine Ev ?_
   exact fin _ _ 1 (by exact Er) (by unfold chkN; rw [if_neg (fun e => h2 e.2)])
 ·refine Rgf @h1 (fun E K hE hK => ?_)
  refine hK _ _ _ ?_; clear hE hK K E
  refine Bt ?_
  refine Rk ?_
  refine AWP.ret ?_
  refine Ev ?_
  exact fin _ _ 1 (by exact Er) (by unfold chkN; rw [if_neg (fun e => h1 e.1)])
theorem folder_ok (s : ByteArray) (h : Heap) (b : Nat) : ACalls Tryz.prog 121 [StrB s] h b 0 (fun r h' => r = IntV (folN (bl s)) ∧ h' = h) := by
 refine ACalls.enter Tryz.func121 rfl (by simp [Tryz.ntmps121]) (fun ι w hn H => ?_)
 have fin : ∀ (t : Nat → AV) (n : Nat) (v : Int), t 2 = IntV v → v = folN (bl s) → Am.Ends Tryz.prog ⟨Tryz.f121.ntmps, b, ι, h, w, x0⟩ Tryz.f121 0 (fun r h' => r = IntV (folN (bl s)) ∧ h' = h) ⟨t, h, n⟩ := by
  intro t n v ht hv
  exact Ends.pure hn H (fun _ _ => rfl) (r0 := IntV v) (by rw [show Tryz.f121.results.toList = [.tmp 2] from rfl]; exact Ecf @ht) (.v _) ⟨by rw [hv], rfl⟩
 refine Rk ?_
 refine AWP.seq ?_
 refine Rk ?_
 by_cases h1 : bl s = []
 ·refine Btf (jn2 @h1 @toL0) ?_
  refine Rk ?_
  refine AWP.ret ?_
  refine Ev ?_
  exact fin _ _ 0 (by exact Er) (by unfold folN; rw [if_pos h1])
 ·refine Bsf (jn2 @h1 @toL0) ?_
  refine Rg (fun E K hE hK => ?_)
  refine Us (Check_ok s _ _) body_31 ?_
  refine hK _ _ _ ?_; clear hE hK K E
  refine AWP.ret ?_
  exact fin _ _ _ (by exact Er) (by unfold folN; rw [if_neg h1])
theorem Within_ok (d p : ByteArray) (h : Heap) (b : Nat) : ACalls Tryz.prog 69 [StrB d, StrB p] h b 0 (fun r h' => r = .tup [BoolV (withinN (bl d) (bl p)).1, IntV (withinN (bl d) (bl p)).2] ∧ h' = h) := by
 refine ACalls.enter Tryz.func69 rfl (by simp [Tryz.ntmps69]) (fun ι w hn H => ?_)
 have fin : ∀ (t : Nat → AV) (n : Nat) (v : Bool × Int), t 4 = BoolV v.1 → t 5 = IntV v.2 → v = withinN (bl d) (bl p) → Am.Ends Tryz.prog ⟨Tryz.f69.ntmps, b, ι, h, w, x0⟩ Tryz.f69 0 (fun r h' => r = .tup [BoolV (withinN (bl d) (bl p)).1, IntV (withinN (bl d) (bl p)).2] ∧ h' = h) ⟨t, h, n⟩ := by
  intro t n v ht ht2 hv
  exact Ends.pure hn H (fun _ _ => rfl) (r0 := .tup [BoolV v.1, IntV v.2]) (by rw [show Tryz.f69.results.toList = [.tmp 4, .tmp 5] from rfl]; exact Ecf (jn2 @ht @ht2)) (frz_tup2 (.v _) (.v _)) ⟨by rw [hv], rfl⟩
 refine Rk ?_
 refine AWP.seq ?_
 by_cases h1 : folN (bl d) = 0
 ·by_cases h2 : chkN (bl p) = 0
  ·refine Rg (fun E K hE hK => ?_)
   refine Us (folder_ok d _ _) body_121 ?_
   refine Evf @h1 ?_
   refine Us (Check_ok p _ _) body_31 ?_
   refine Evf @h2 ?_
   refine hK _ _ _ ?_; clear hE hK K E
   refine Bs ?_
   by_cases h3 : bl d = []
   ·refine Rgf (jn2 @h3 @toL0) (fun E K hE hK => ?_)
    refine hK _ _ _ ?_; clear hE hK K E
    refine AWP.ret ?_
    exact fin _ _ (true, 0) (by exact Er) (by exact Er) (by unfold withinN; rw [if_neg (by simp [h1, h2])]; simp [h3])
   ·have hd : d.size ≤ 96 := by
     have hl : (bl d).length = d.size := Array.length_toList
     rcases folN_zero.1 h1 with e | e
     ·rw [← hl, e]; simp
     ·rw [← hl]; exact e.1
    have hz0 : (#[(47 : UInt8)] : Array UInt8).size = 1 := rfl
    have hz : d.size + (#[(47 : UInt8)] : Array UInt8).size ≤ 9223372036854775807 := by omega
    refine Rgf (jn3 @h3 @toL0 @hz) (fun E K hE hK => ?_)
    refine Us (hasPrefix_ok p _ _ _) body_122 ?_
    refine hK _ _ _ ?_; clear hE hK K E
    refine AWP.ret ?_
    exact fin _ _ ((bl (d ++ ⟨#[47]⟩)).isPrefixOf (bl p), 0) (by exact Er) (by exact Er) (by unfold withinN; rw [if_neg (by simp [h1, h2])]; simp [h3, ByteArray.data_append])
  ·refine Rg (fun E K hE hK => ?_)
   refine Us (folder_ok d _ _) body_121 ?_
   refine Evf @h1 ?_
   refine Us (Check_ok p _ _) body_31 ?_
   refine Evf @h2 ?_
   refine hK _ _ _ ?_; clear hE hK K E
   refine Bt ?_
   refine Rk ?_
   refine AWP.ret ?_
   refine Ev ?_
   exact fin _ _ (false, 1) (by exact Er) (by exact Er) (by unfold withinN; rw [if_pos (.inr h2)])
 ·refine Rg (fun E K hE hK => ?_)
  refine Us (folder_ok d _ _) body_121 ?_
  refine Evf @h1 ?_
  refine hK _ _ _ ?_; clear hE hK K E
  refine Bt ?_
  refine Rk ?_
  refine AWP.ret ?_
  refine Ev ?_
  exact fin _ _ (false, 1) (by exact Er) (by exact Er) (by unfold withinN; rw [if_pos (.inl h1)])
theorem bytesLess_cmp : ∀ a b : S, Op.bytesLess a b = decide (cmpS a b < 0)
 | [], [] => rfl
 | [], _ :: _ => rfl
 | _ :: _, [] => rfl
 | x :: a, y :: b => by
   have ih := bytesLess_cmp a b
   unfold Op.bytesLess
   have e : cmpS (x :: a) (y :: b) = if cmpU x y ≠ 0 then cmpU x y else cmpS a b := rfl
   rw [e]
   by_cases h1 : x.toNat < y.toNat
   ·have : cmpU x y = -1 := by unfold cmpU; rw [if_pos h1]
    rw [this]
    have hlt : x < y := h1
    simp [hlt]
   ·by_cases h2 : y.toNat < x.toNat
    ·have : cmpU x y = 1 := by unfold cmpU; rw [if_neg h1, if_pos h2]
     rw [this]
     have hne : x ≠ y := fun e => by subst e; exact absurd h2 (Nat.lt_irrefl _)
     have hlt : ¬ x < y := h1
     simp [hlt, hne]
    ·have hxy : x = y := by rw [← UInt8.toNat_inj]; omega
     have : cmpU x y = 0 := by unfold cmpU; rw [if_neg h1, if_neg h2]
     rw [this, ih]
     subst hxy
     simp
abbrev encS (p : S) : List PD := [.v (.string (mkS p))]
abbrev ListV (xs : List S) : AV := .one (.p (.sl 1 (xs.map encS)))
theorem isNaN_ok (s : ByteArray) (h : Heap) (b : Nat) : ACalls Tryz.prog 220 [StrB s] h b 0 (fun r h' => r = BoolV false ∧ h' = h) := by
 refine ACalls.enter Tryz.func220 rfl (by simp [Tryz.ntmps220]) (fun ι w hn H => ?_)
 refine Rk ?_
 refine Rk ?_
 refine AWP.ret ?_
 exact Ends.pure hn H (fun _ _ => rfl) (r0 := BoolV false) (by rw [show Tryz.f220.results.toList = [.tmp 2] from rfl]; exact Er) (.v _) ⟨rfl, rfl⟩
theorem cmpStr_ok (s q : ByteArray) (h : Heap) (b : Nat) : ACalls Tryz.prog 202 [StrB s, StrB q] h b 0 (fun r h' => r = IntV (cmpS (bl s) (bl q)) ∧ h' = h) := by
 refine ACalls.enter Tryz.func202 rfl (by simp [Tryz.ntmps202]) (fun ι w hn H => ?_)
 have fin : ∀ (t : Nat → AV) (n : Nat) (v : Int), t 4 = IntV v → v = cmpS (bl s) (bl q) → Am.Ends Tryz.prog ⟨Tryz.f202.ntmps, b, ι, h, w, x0⟩ Tryz.f202 0 (fun r h' => r = IntV (cmpS (bl s) (bl q)) ∧ h' = h) ⟨t, h, n⟩ := by
  intro t n v ht hv
  exact Ends.pure hn H (fun _ _ => rfl) (r0 := IntV v) (by rw [show Tryz.f202.results.toList = [.tmp 4] from rfl]; exact Ecf @ht) (.v _) ⟨by rw [hv], rfl⟩
 have hr := cmpS_tot.rng (bl s) (bl q)
 have hz := cmpS_tot.eq0 (bl s) (bl q)
 refine Rk ?_
 refine Rg (fun E K hE hK => ?_)
 refine Us (isNaN_ok s _ _) body_220 ?_
 refine hK _ _ _ ?_; clear hE hK K E
 refine Rg (fun E K hE hK => ?_)
 refine Us (isNaN_ok q _ _) body_220 ?_
 refine hK _ _ _ ?_; clear hE hK K E
 refine AWP.seq ?_
 refine Rk ?_
 refine Bs ?_
 refine AWP.seq ?_
 refine Rk ?_
 refine Bs ?_
 refine AWP.seq ?_
 have hbl := bytesLess_cmp (bl s) (bl q)
 by_cases h1 : cmpS (bl s) (bl q) < 0
 ·rw [decide_eq_true h1] at hbl
  refine Rkf @hbl ?_
  refine Bt ?_
  refine Rk ?_
  refine AWP.ret ?_
  refine Ev ?_
  exact fin _ _ (-1) (by exact Er) (by omega)
 ·rw [decide_eq_false h1] at hbl
  refine Rkf @hbl ?_
  refine Bs ?_
  refine AWP.seq ?_
  by_cases h2 : bl s = bl q
  ·have h0 := hz.2 h2
   refine Rkf (jn2 @hbl @h2) ?_
   refine Bsf @Bool.or_true ?_
   refine Rk ?_
   refine AWP.ret ?_
   exact fin _ _ 0 (by exact Er) h0.symm
  ·have h0 : ¬ cmpS (bl s) (bl q) = 0 := fun e => h2 (hz.1 e)
   refine Rkf (jn2 @hbl @h2) ?_
   refine Btf @Bool.or_false ?_
   refine Rk ?_
   refine AWP.ret ?_
   refine Ev ?_
   exact fin _ _ 1 (by exact Er) (by omega)
theorem encS_getD (xs : List S) (i : Nat) (h : i < xs.length) : (xs.map encS).getD i [] = [.v (.string (mkS xs[i]))] := by simp [List.getD, h]
def cmpI (xs ys : List S) (h : Heap) (i : Nat) (st : St) : Prop :=
 st.h = h ∧ st.t 0 = ListV xs ∧ st.t 1 = ListV ys ∧ st.t 9 = ListV xs ∧ st.t 10 = IntV xs.length ∧ st.t 11 = IntV i ∧ i ≤ ys.length ∧ cmpP xs ys = cmpP (xs.drop i) (ys.drop i)
theorem cmpList_ok (xs ys : List S) (hx : xs.length ≤ 1000) (hy : ys.length ≤ 1000) (h : Heap) (b : Nat) : ACalls Tryz.prog 169 [ListV xs, ListV ys] h b 0 (fun r h' => r = IntV (cmpP xs ys) ∧ h' = h) := by
 refine ACalls.enter Tryz.func169 rfl (by simp [Tryz.ntmps169]) (fun ι w hn H => ?_)
 have fin : ∀ (t : Nat → AV) (n : Nat) (v : Int), t 4 = IntV v → v = cmpP xs ys → Am.Ends Tryz.prog ⟨Tryz.f169.ntmps, b, ι, h, w, x0⟩ Tryz.f169 0 (fun r h' => r = IntV (cmpP xs ys) ∧ h' = h) ⟨t, h, n⟩ := by
  intro t n v ht hv
  exact Ends.pure hn H (fun _ _ => rfl) (r0 := IntV v) (by rw [show Tryz.f169.results.toList = [.tmp 4] from rfl]; exact Ecf @ht) (.v _) ⟨by rw [hv], rfl⟩
 refine Rk ?_
 refine AWP.seq ?_
 refine Rk ?_
 refine AWP.block ?_
 refine AWP.loopK 0 (fun m st => ∃ i, m = xs.length - i ∧ i ≤ xs.length ∧ cmpI xs ys h i st) xs.length rfl ⟨0, rfl, Nat.zero_le _, rfl, by exact Er, by exact Er, by exact Er, by exact Er, by exact Er, Nat.zero_le _, rfl⟩ ?_
 rintro m ⟨t, hh, n⟩ ⟨i, rfl, hi, rfl, e0, e1, e9, e10, e11, hiy, hc⟩ hn1
 simp only at e0 e1 e9 e10 e11 hn1
 subst hn1
 refine Rkf (jn2 @e10 @e11) ?_
 refine AWP.seq ?_
 by_cases hlt : (i : Int) < xs.length
 ·refine Btf @hlt ?_
  refine AWP.skip ?_
  refine Ev ?_
  refine AWP.seq ?_
  refine AWP.block ?_
  have hi2 : i < xs.length := by omega
  have hdx := List.drop_eq_getElem_cons hi2
  refine AWP.seqReg (by kernel_rfl) (fun E K hE hK => ?_); simp -implicitDefEqProofs only [go_sem, ↓reduceIte, Nat.reduceEqDiff, Nat.reduceAdd, Nat.reduceLT, Nat.reduceLeDiff, reduceCtorEq, Int.toNat_natCast, e9, e11, List.length_map, hlt, encS_getD xs i hi2]
  refine ⟨by omega, ?_⟩
  refine hK _ _ _ ?_; clear hE hK K E
  refine AWP.seq ?_
  refine Rkf @e1 ?_
  by_cases h1 : (ys.length : Int) ≤ i
  ·refine Btf @h1 ?_
   refine Rk ?_
   refine AWP.ret ?_
   refine Ev ?_
   refine fin _ _ 1 (by exact Er) ?_
   rw [hc, hdx, (List.drop_of_length_le (by omega) : ys.drop i = [])]; rfl
  ·refine Bsf @h1 ?_
   have hiy2 : i < ys.length := by omega
   have hlty : (i : Int) < ys.length := by omega
   have hdy := List.drop_eq_getElem_cons hiy2
   refine AWP.seqReg (by kernel_rfl) (fun E K hE hK => ?_); simp -implicitDefEqProofs only [go_sem, ↓reduceIte, Nat.reduceEqDiff, Nat.reduceAdd, Nat.reduceLT, Nat.reduceLeDiff, reduceCtorEq, Int.toNat_natCast, e1, e11, List.length_map, hlty, encS_getD ys i hiy2]
   refine ⟨by omega, ?_⟩
   refine hK _ _ _ ?_; clear hE hK K E
   refine Rg (fun E K hE hK => ?_)
   refine Us (cmpStr_ok (mkS xs[i]) (mkS ys[i]) _ _) body_202 ?_
   refine Evf @mkS_list ?_
   refine hK _ _ _ ?_; clear hE hK K E
   refine Rk ?_
   have hstep : cmpP xs ys = if cmpS xs[i] ys[i] ≠ 0 then cmpS xs[i] ys[i] else cmpP (xs.drop (i + 1)) (ys.drop (i + 1)) := by
    rw [hc, hdx, hdy]; rfl
   by_cases h2 : cmpS xs[i] ys[i] = 0
   ·rw [if_neg (by simp [h2])] at hstep
    refine Bff @h2 ?_
    refine AWP.skip ?_
    refine Ev ?_
    refine Raf @e11 (fun E K hE hK => ?_); refine hK _ _ _ ?_; clear hE hK K E
    refine ⟨rfl, _, ?_, i + 1, rfl, by omega, rfl, by exact Ecf @e0, by exact Ecf @e1, by exact Ecf @e9, by exact Ecf @e10, ?_, by omega, hstep⟩
    ·omega
    ·refine Ev ?_; rw [wrap_i64 (by omega) (by omega)]; rfl
   ·rw [if_pos h2] at hstep
    refine Btf @h2 ?_
    refine Rk ?_
    refine AWP.ret ?_
    refine Ev ?_
    exact fin _ _ _ (by exact Er) hstep.symm
 ·refine Bff @hlt ?_
  refine AWP.exit ?_
  refine Ev ?_
  have hi2 : i = xs.length := by omega
  subst hi2
  rw [List.drop_of_length_le (Nat.le_refl _)] at hc
  refine AWP.seq ?_
  refine Rkf (jn2 @e0 @e1) ?_
  by_cases h1 : (xs.length : Int) < ys.length
  ·refine Btf @h1 ?_
   refine Rk ?_
   refine AWP.ret ?_
   refine Ev ?_
   refine fin _ _ (-1) (by exact Er) ?_
   rw [hc, List.drop_eq_getElem_cons (by omega)]; rfl
  ·refine Bsf @h1 ?_
   refine Rk ?_
   refine AWP.ret ?_
   refine fin _ _ 0 (by exact Er) ?_
   rw [hc, List.drop_of_length_le (by omega)]; rfl
theorem countByte_parts (l : S) : (Lib.countByte l 47 : Int) + 1 = ((parts l).length : Int) := by
 have : Lib.countByte l 47 + 1 = (parts l).length := by
  unfold Lib.countByte
  induction l with
  | nil => rfl
  | cons c l ih =>
    by_cases hc : c = 47
    ·subst hc; rw [parts_sl, List.length_cons, ← ih]; simp
    ·obtain ⟨p, ps, hp⟩ := parts_ex l
     rw [parts_cons hc hp]
     rw [hp] at ih
     rw [List.count_cons_of_ne hc]; simpa using ih
 omega
theorem parts_len (l : S) : (parts l).length ≤ l.length + 1 := by
 have h1 := len_wt (parts l)
 have h2 := joinS_wt (parts_ne l)
 rw [joinS_parts] at h2
 -- each part bears one
 have : ∀ ps : List S, ps.length ≤ wt ps := len_wt
 have e : ∀ ps : List S, ps ≠ [] → ps.length ≤ (joinS ps).length + 1 := fun ps hne => by have := joinS_wt hne; have := len_wt ps; omega
 have := e (parts l) (parts_ne l)
 rw [joinS_parts] at this
 exact this
theorem repl_str (n : Nat) : repl ([Value.string ByteArray.empty].map fun v => Cell.p (.v v)) n = (List.replicate n ([] : S)).map strC := by
 induction n with
 | zero => rfl
 | succ n ih => rw [List.replicate_succ, List.map_cons (l := List.replicate n ([] : S)), ← ih]; rfl
theorem okEs_str (xs : List S) : okEs 1 (xs.map encS) := fun e he => by
 obtain ⟨x, _, rfl⟩ := List.mem_map.1 he
 exact ⟨rfl, fun d hd => by simp at hd; subst hd; rfl⟩
theorem flat_str (xs : List S) : (xs.map encS).flatten.map Cell.p = xs.map strC := by
 induction xs with
 | nil => rfl
 | cons x xs ih => rw [List.map_cons, List.flatten_cons, List.map_append, ih]; rfl
def gspI (l0 : S) (h : Heap) (b : Nat) (d : List S) (rest : S) (st : St) : Prop :=
 st.n = 1 ∧ st.h b = some ⟨0, (d ++ List.replicate ((parts l0).length - d.length) []).map strC⟩ ∧ (∀ id, id < b → st.h id = h id) ∧ st.t 0 = StrB (mkS rest) ∧ st.t 1 = StrB ⟨#[47]⟩ ∧ st.t 2 = IntV 0 ∧ st.t 3 = IntV ((parts l0).length - 1) ∧
  st.t 9 = .one (.win b 0 0 (parts l0).length (parts l0).length) ∧ st.t 10 = IntV d.length ∧ parts l0 = d ++ parts rest ∧ rest.length ≤ 1000
theorem gsp_cells (d : List S) (k : Nat) (p : S) (hk : 0 < k) : List.take (d.length * 1) (List.map strC (d ++ List.replicate k [])) ++ strC p :: List.drop (d.length * 1 + 1) (List.map strC (d ++ List.replicate k [])) = ((d ++ [p]) ++ List.replicate (k - 1) []).map strC := by
 obtain ⟨k, rfl⟩ : ∃ j, k = j + 1 := ⟨k - 1, by omega⟩
 rw [Nat.mul_one, List.map_append, List.take_left' (by simp), List.replicate_succ]
 have e : (d.map strC ++ ([] :: List.replicate k ([] : S)).map strC).drop (d.length + 1) = (List.replicate k ([] : S)).map strC := by
  rw [← List.drop_drop, List.drop_left' (by simp)]; rfl
 rw [e]
 simp
theorem genSplit_ok (s : ByteArray) (hs : s.size ≤ 1000) (h : Heap) (b : Nat) : ACalls Tryz.prog 203 [StrB s, StrB ⟨#[47]⟩, IntV 0, IntV (-1)] h b 0 (fun r h' => r = ListV (parts (bl s)) ∧ h' = h) := by
 refine ACalls.enter Tryz.func203 rfl (by simp [Tryz.ntmps203]) (fun ι w hn H => ?_)
 have hlen := bl_len s
 have hcnt := countByte_parts (bl s)
 have hpl := parts_len (bl s)
 have hp0 : 0 < (parts (bl s)).length := List.length_pos_iff.2 (parts_ne _)
 refine Rk ?_
 refine AWP.seq ?_
 refine Rk ?_
 refine AWP.ifF (by simp -implicitDefEqProofs only [go_sem, ↓reduceIte, Nat.reduceEqDiff, Nat.reduceAdd, Nat.reduceLT, Nat.reduceLeDiff, reduceCtorEq, Int.toNat_natCast, Int.reduceEq, Int.reduceNeg]) ?_; refine AWP.skip ?_; simp -implicitDefEqProofs only [go_sem, ↓reduceIte, Nat.reduceEqDiff, Nat.reduceAdd, Nat.reduceLT, Nat.reduceLeDiff, reduceCtorEq, Int.toNat_natCast]
 refine AWP.seq ?_
 refine Rkf (jn2 @toL1 @toL0) ?_
 refine Bs ?_
 refine AWP.seq ?_
 refine AWP.seqReg (by kernel_rfl) (fun E K hE hK => ?_); simp -implicitDefEqProofs only [go_sem, ↓reduceIte, Nat.reduceEqDiff, Nat.reduceAdd, Nat.reduceLT, Nat.reduceLeDiff, reduceCtorEq, Int.toNat_natCast, Int.reduceLT, Int.reduceNeg]; refine hK _ _ _ ?_; clear hE hK K E
 refine Bt ?_
 have hw : IntKind.i64.wrap ((Lib.countByte (bl s) 47 : Int) + 1) = ((parts (bl s)).length : Int) := by rw [wrap_i64 (by omega) (by omega)]; exact hcnt
 refine Ra (fun E K hE hK => ?_)
 refine Us (count_ok s _ _) body_222 ?_
 refine Evf @hw ?_
 refine hK _ _ _ ?_; clear hE hK K E
 refine Ev ?_
 have hw2 : IntKind.i64.wrap ((s.size : Int) + 1) = s.size + 1 := wrap_i64 (by omega) (by omega)
 have hmin : min ((parts (bl s)).length : Int) ((s.size : Int) + 1) = ((parts (bl s)).length : Int) := by omega
 refine Rkf (jn2 @hw2 @hmin) ?_
 refine Rg (fun E K hE hK => ?_)
 refine MkR.of ?_
 refine MkK.make (e := 9) (sz := 1) (bytes := 16) ty_slE_42 ty_tsz_9 ty_tzero_9 rfl ty_tby_9 (Nat.le_refl _) (by omega) (by omega) ?_
 rw [repl_str]
 refine Ev ?_
 refine hK _ _ _ ?_; clear hE hK K E
 have hw3 : IntKind.i64.wrap (((parts (bl s)).length : Int) - 1) = ((parts (bl s)).length : Int) - 1 := wrap_i64 (by omega) (by omega)
 refine Rkf @hw3 ?_
 refine Rk ?_
 refine AWP.mid (fun st => ∃ d rest, gspI (bl s) h b d rest st ∧ (47 : UInt8) ∉ rest) ?_ ?_
 ·refine AWP.block ?_
  refine AWP.loopK 1 (fun m st => ∃ d rest, m = rest.length ∧ gspI (bl s) h b d rest st) (bl s).length rfl ⟨[], bl s, rfl, rfl, by exact Er, Ou, by rw [mkS_of]; exact Er, by exact Er, by exact Er, by exact Er, by exact Er, by exact Er, rfl, by omega⟩ ?_
  rintro m ⟨t, hh, n⟩ ⟨d, rest, rfl, hn0, hb, ho, e0, e1, e2, e3, e9, e10, hp, hrl⟩ hn1
  simp only at hn0 hb ho e0 e1 e2 e3 e9 e10
  subst hn0
  have hpp := congrArg List.length hp
  rw [List.length_append] at hpp
  refine AWP.seq ?_
  refine Rkf (jn2 @e3 @e10) ?_
  rcases parts_cut rest with ⟨h1, h2⟩ | ⟨p, q, rfl, h1, h2⟩
  ·rw [h2] at hpp
   have hlt : ¬ (d.length : Int) < (parts (bl s)).length - 1 := by simp at hpp; omega
   refine Bff @hlt ?_
   refine AWP.exit ?_
   refine Ev ?_
   exact ⟨d, rest, ⟨rfl, hb, ho, by exact Ecf @e0, by exact Ecf @e1, by exact Ecf @e2, by exact Ecf @e3, by exact Ecf @e9, by exact Ecf @e10, hp, hrl⟩, h1⟩
  ·have hq0 : 0 < (parts q).length := List.length_pos_iff.2 (parts_ne _)
   rw [h2, List.length_cons] at hpp
   have hlt : (d.length : Int) < (parts (bl s)).length - 1 := by omega
   have hlt2 : (d.length : Int) < (parts (bl s)).length := by omega
   refine Btf @hlt ?_
   refine AWP.skip ?_
   refine Ev ?_
   refine AWP.block ?_
   have sl : (mkS (p ++ 47 :: q)).data.toList = p ++ 47 :: q := rfl
   have hpl : p.length ≤ 1000 := by rw [List.length_append] at hrl; omega
   have hw0 : IntKind.i64.wrap ((p.length : Int) + 0) = p.length := by rw [wrap_i64 (by omega) (by omega)]; omega
   have hw1 : IntKind.i64.wrap ((p.length : Int) + 1) = ((p.length + 1 : Nat) : Int) := by rw [wrap_i64 (by omega) (by omega)]; omega
   have hx0 : (mkS (p ++ 47 :: q)).extract 0 p.length = mkS p := by rw [mkS_extract]; simp
   have hx1 : (mkS (p ++ 47 :: q)).extract (p.length + 1) (mkS (p ++ 47 :: q)).size = mkS q := by
    rw [mkS_extract, mkS_size]
    congr 1
    rw [show p ++ 47 :: q = (p ++ [47]) ++ q by simp, List.drop_append_of_le_length (by simp), List.drop_eq_nil_of_le (by simp), List.nil_append]
    exact List.take_of_length_le (by simp; omega)
   have hs47 : (((#[(47 : UInt8)] : Array UInt8).size : Nat) : Int) = 1 := rfl
   have hms : ((mkS (p ++ 47 :: q)).size : Int) = p.length + 1 + q.length := by rw [mkS_size]; simp; omega
   have hlt0 : ¬ ((p.length : Int)) < 0 := by omega
   refine Rgf (jn2 @e0 @e1) (fun E K hE hK => ?_)
   refine Us (index_ok (mkS (p ++ 47 :: q)) _ _) body_206 ?_
   simp -implicitDefEqProofs only [go_sem, ↓reduceIte, Nat.reduceEqDiff, Nat.reduceAdd, Nat.reduceLT, Nat.reduceLeDiff, reduceCtorEq, Int.toNat_natCast, sl, indexByte_some h1]
   refine hK _ _ _ ?_; clear hE hK K E
   refine AWP.seq ?_
   refine Rk ?_
   refine Bsf @hlt0 ?_
   refine Rgf (jn2 @e0 (jn7 @e2 @e9 @e10 @hw0 @hx0 @hb @hlt2)) (fun E K hE hK => ?_)
   refine ⟨rfl, ⟨by omega, by omega⟩, by omega, by simp; omega, ?_⟩
   have hcl := gsp_cells d ((parts (bl s)).length - d.length) p (by omega)
   rw [show strC p = Cell.p (.v (.string (mkS p))) from rfl] at hcl
   rw [hcl]
   refine hK _ _ _ ?_; clear hE hK K E
   refine Rgf (jn5 @e0 @e1 @hs47 @hw1 @hx1) (fun E K hE hK => ?_)
   refine ⟨rfl, ⟨by omega, by omega⟩, ?_⟩
   refine hK _ _ _ ?_; clear hE hK K E
   have hw4 : IntKind.i64.wrap ((d.length : Int) + 1) = ((d.length + 1 : Nat) : Int) := by rw [wrap_i64 (by omega) (by omega)]; rfl
   refine Raf (jn2 @e10 @hw4) (fun E K hE hK => ?_); refine hK _ _ _ ?_; clear hE hK K E
   refine Ev ?_
   refine ⟨_, ?_, d ++ [p], q, rfl, rfl, ?_, (Ouf @ho), by exact Ec, by exact Ecf @e1, by exact Ecf @e2, by exact Ecf @e3, by exact Ecf @e9, by rw [List.length_append]; exact Er, by rw [hp, h2]; simp, by rw [List.length_append] at hrl; simp at hrl; omega⟩
   ·simp; omega
   ·rw [List.length_append]; exact Erf @Nat.sub_sub
 ·rintro ⟨t, hh, n⟩ ⟨d, rest, ⟨hn0, hb, ho, e0, e1, e2, e3, e9, e10, hp, hrl⟩, h1⟩
  simp only at hn0 hb ho e0 e1 e2 e3 e9 e10
  subst hn0
  rw [parts_one h1] at hp
  have hpp : (parts (bl s)).length = d.length + 1 := by rw [hp]; simp
  have hlt2 : (d.length : Int) < (parts (bl s)).length := by omega
  refine Rgf (jn5 @e0 @e9 @e10 @hb @hlt2) (fun E K hE hK => ?_)
  refine ⟨by omega, by simp; omega, ?_⟩
  have hcl := gsp_cells d ((parts (bl s)).length - d.length) rest (by omega)
  rw [show strC rest = Cell.p (.v (.string (mkS rest))) from rfl] at hcl
  rw [hcl, show (parts (bl s)).length - d.length - 1 = 0 by omega, List.replicate_zero, List.append_nil, ← hp]
  refine hK _ _ _ ?_; clear hE hK K E
  have hw4 : IntKind.i64.wrap ((d.length : Int) + 1) = ((parts (bl s)).length : Int) := by rw [wrap_i64 (by omega) (by omega)]; omega
  refine Rgf (jn3 @e9 @e10 @hw4) (fun E K hE hK => ?_)
  refine ⟨⟨by omega, by omega⟩, ?_⟩
  refine hK _ _ _ ?_; clear hE hK K E
  refine AWP.ret ?_
  refine Ends.pure hn H (Ouf @ho) (r0 := .one (.win b 0 0 ((parts (bl s)).map encS).length (parts (bl s)).length)) (by rw [show Tryz.f203.results.toList = [.tmp 8] from rfl]; exact Er) (.one (frz_row0 (sz := 1) (es := (parts (bl s)).map encS) (T := []) (Nat.le_refl _) (by rw [rowB, flat_str, List.append_nil]; exact Er) (okEs_str _))) ⟨rfl, rfl⟩
theorem strSplit_ok (s : ByteArray) (hs : s.size ≤ 1000) (h : Heap) (b : Nat) : ACalls Tryz.prog 170 [StrB s, StrB ⟨#[47]⟩] h b 0 (fun r h' => r = ListV (parts (bl s)) ∧ h' = h) := by
 refine ACalls.enter Tryz.func170 rfl (by simp [Tryz.ntmps170]) (fun ι w hn H => ?_)
 refine Rk ?_
 refine Rg (fun E K hE hK => ?_)
 refine Us (genSplit_ok s hs _ _) body_203 ?_
 refine hK _ _ _ ?_; clear hE hK K E
 refine AWP.ret ?_
 exact Ends.pure hn H (fun _ _ => rfl) (r0 := ListV (parts (bl s))) (by rw [show Tryz.f170.results.toList = [.tmp 4] from rfl]; exact Er) (frzV.p _) ⟨rfl, rfl⟩
theorem Cmp_ok (a c : ByteArray) (h : Heap) (b : Nat) : ACalls Tryz.prog 119 [StrB a, StrB c] h b 0 (fun r h' => r = .tup [IntV (cmpN (bl a) (bl c)).1, IntV (cmpN (bl a) (bl c)).2] ∧ h' = h) := by
 refine ACalls.enter Tryz.func119 rfl (by simp [Tryz.ntmps119]) (fun ι w hn H => ?_)
 have fin : ∀ (t : Nat → AV) (n : Nat) (v : Int × Int), t 4 = IntV v.1 → t 5 = IntV v.2 → v = cmpN (bl a) (bl c) → Am.Ends Tryz.prog ⟨Tryz.f119.ntmps, b, ι, h, w, x0⟩ Tryz.f119 0 (fun r h' => r = .tup [IntV (cmpN (bl a) (bl c)).1, IntV (cmpN (bl a) (bl c)).2] ∧ h' = h) ⟨t, h, n⟩ := by
  intro t n v ht ht2 hv
  exact Ends.pure hn H (fun _ _ => rfl) (r0 := .tup [IntV v.1, IntV v.2]) (by rw [show Tryz.f119.results.toList = [.tmp 4, .tmp 5] from rfl]; exact Ecf (jn2 @ht @ht2)) (frz_tup2 (.v _) (.v _)) ⟨by rw [hv], rfl⟩
 have hla := bl_len a
 have hlc := bl_len c
 refine Rk ?_
 refine AWP.seq ?_
 by_cases h1 : chkN (bl a) = 0
 ·by_cases h2 : chkN (bl c) = 0
  ·have ca := (chkN_zero.1 h1).1
   have cc := (chkN_zero.1 h2).1
   have pa := parts_len (bl a)
   have pc := parts_len (bl c)
   refine Rg (fun E K hE hK => ?_)
   refine Us (Check_ok a _ _) body_31 ?_
   refine Evf @h1 ?_
   refine Us (Check_ok c _ _) body_31 ?_
   refine Evf @h2 ?_
   refine hK _ _ _ ?_; clear hE hK K E
   refine Bs ?_
   refine Rg (fun E K hE hK => ?_)
   refine Us (strSplit_ok a (by omega) _ _) body_170 ?_
   refine Us (strSplit_ok c (by omega) _ _) body_170 ?_
   refine Us (cmpList_ok _ _ (by omega) (by omega) _ _) body_169 ?_
   refine hK _ _ _ ?_; clear hE hK K E
   refine AWP.ret ?_
   exact fin _ _ (cmpP (parts (bl a)) (parts (bl c)), 0) (by exact Er) (by exact Er) (by unfold cmpN; rw [if_neg (by simp [h1, h2])])
  ·refine Rg (fun E K hE hK => ?_)
   refine Us (Check_ok a _ _) body_31 ?_
   refine Evf @h1 ?_
   refine Us (Check_ok c _ _) body_31 ?_
   refine Evf @h2 ?_
   refine hK _ _ _ ?_; clear hE hK K E
   refine Bt ?_
   refine Rk ?_
   refine AWP.ret ?_
   refine Ev ?_
   exact fin _ _ (0, 1) (by exact Er) (by exact Er) (by unfold cmpN; rw [if_pos (.inr h2)])
 ·refine Rg (fun E K hE hK => ?_)
  refine Us (Check_ok a _ _) body_31 ?_
  refine Evf @h1 ?_
  refine hK _ _ _ ?_; clear hE hK K E
  refine Bt ?_
  refine Rk ?_
  refine AWP.ret ?_
  refine Ev ?_
  exact fin _ _ (0, 1) (by exact Er) (by exact Er) (by unfold cmpN; rw [if_pos (.inl h1)])
def RowAt (h : Heap) (id ver cap sz : Nat) (es : List (List PD)) : Prop := ∃ T, h id = some (rowB ver es T) ∧ es.length * sz + T.length = cap * sz ∧ lowCs 0 T = true
theorem RowAt.cut {h : Heap} {id ver cap sz k : Nat} {es : List (List PD)} (r : RowAt h id ver cap sz es) (hm : id < k) : RowAt (cutH k h) id ver cap sz es := by
 obtain ⟨T, h1, h2, h3⟩ := r
 exact ⟨T, cutH_same hm h1 (lowCs_app (lowCs_p _ _) (lowCs_mono (Nat.zero_le _) h3)), h2, h3⟩
theorem RowAt.ne {h : Heap} {id ver cap sz i : Nat} {es : List (List PD)} {blk : Blk} (r : RowAt h id ver cap sz es) (hi : id ≠ i) : RowAt (upd h i blk) id ver cap sz es := by
 obtain ⟨T, h1, h2, h3⟩ := r
 exact ⟨T, by rw [upd_ne _ _ _ _ hi]; exact h1, h2, h3⟩
theorem RowAt.del {h : Heap} {id ver cap sz i : Nat} {es : List (List PD)} (r : RowAt h id ver cap sz es) (hi : id ≠ i) : RowAt (delH h i) id ver cap sz es := by
 obtain ⟨T, h1, h2, h3⟩ := r
 exact ⟨T, by unfold delH; rw [if_neg hi]; exact h1, h2, h3⟩
theorem RowAt.new {h : Heap} {id ver cap sz : Nat} {es : List (List PD)} {T : List Cell} (h2 : es.length * sz + T.length = cap * sz) (h3 : lowCs 0 T = true) : RowAt (upd h id (rowB ver es T)) id ver cap sz es := ⟨T, upd_same _ _ _, h2, h3⟩
theorem RowAt.nil {h : Heap} {id sz : Nat} : RowAt (upd h id ⟨0, []⟩) id 0 0 sz [] := ⟨[], upd_same _ _ _, by simp, rfl⟩
theorem AWP.frzRow {P : Program} {C : Ctx} {Q : Exit → St → Prop} {c : Code} {t : Nat → AV} {h : Heap} {n : Nat} (i : Nat) {id ver len cap sz : Nat} {es : List (List PD)} (e : t i = .one (.win id ver 0 len cap)) (r : RowAt h id ver cap sz es) (ho : okEs sz es) (hl : es.length = len)
  (k : AWP P C c Q ⟨updT t i (.one (.p (.sl sz es))), delH h id, n⟩) : AWP P C c Q ⟨t, h, n⟩ := by
 obtain ⟨T, h1, h2, h3⟩ := r
 exact AWP.frz i (cap := cap) (len := len) (off := 0) (id := id) sz es e h1 rfl hl ho.len (row_cells ho ver T) k
theorem sub_at {h : Heap} {id ver : Nat} {L : List Cell} (L2 : List Cell) (hb : h id = some ⟨ver, L⟩) : Am.Sub (ers h id) (upd h id ⟨ver, L2⟩) := (sub_ers _ _).upd (fun c e => by
 rw [ers_lit, if_pos rfl, hb] at e
 injection e with e
 subst e; exact ⟨rfl, rfl⟩)
theorem cutH_outS {b x : Nat} {h h0 : Heap} (hl : ∀ id blk, h0 id = some blk → ∀ c ∈ blk.cells, lowC b c = true) (e : h x = h0 x) (hx : x < b) : cutH (b + 0) h x = h0 x := by
 cases h1 : h0 x with
 | none => unfold cutH; rw [if_pos (by omega), e, h1]; rfl
 | some blk => exact cutH_same (by omega) (e.trans h1) (lowCs_of fun c hc => hl x blk h1 c hc)
theorem frz_tup0 (h : Heap) (b : Nat) : frzV h b (.tup []) (.tup []) := .tup rfl (fun i c d hc => by simp at hc)
theorem upd_all {b id : Nat} {hh h : Heap} {blk : Blk} (hb : hh id = some blk) (ho : ∀ k, k < b → k ≠ id → hh k = h k) : ∀ k, k < b → hh k = upd h id blk k := fun k hk => by
 by_cases e : k = id
 ·subst e; rw [upd_same, hb]
 ·rw [upd_ne _ _ _ _ e]; exact ho k hk e
namespace Am
theorem AWP.rgS (S : List Tmp) (V : List AV) {P : Program} {C : Ctx} {Q : Exit → St → Prop} {s : St} {id : Nat} {ops : Array Oper} (hS : Heap) (hsub : Sub hS s.h) (hm : P.follows .mixedOrders = true) (hB : drawB S ops = true) (hN : dstsB C.N ops.toList = true)
  (e : ∀ K : FinT, (∀ t h n, Q .normal ⟨t, h, n⟩ → K t h n) → evD P C S V hS #[] ops.toList s.t s.h s.n K) (hg : (ops.all fun o => o.guard.isNone) = true) (hr : C.x.rd = none := by rfl) : AWP P C (.region id ops true) Q s := by
 refine AWP.regionD (V := V) hm hB hN hsub ?_ hr
 have hsame : ∀ (l : List Oper) (t : Nat → AV) (h : Heap) (n : Nat) (K : FinT), (∀ o ∈ l, o.guard = none) → evD P C S V hS #[] l t h n K → evD P C S V hS ops l t h n K := by
  intro l
  induction l with
  | nil => intro t h n K _ e; exact e
  | cons o l ih =>
    intro t h n K hgl e
    have hgo : o.guard = none := hgl o (by simp)
    have hw : ∀ (os : Array Oper) t, wantD os t o = some true := by intro os t; unfold wantD; rw [hgo]
    unfold evD at e ⊢
    split at e
    ·rename_i hs
     rw [if_pos hs]
     obtain ⟨v, hv, ok, e⟩ := e
     refine ⟨v, ?_, ?_, ih _ _ _ _ (fun o ho => hgl o (by simp [ho])) e⟩
     ·unfold valD at hv ⊢
      rw [hw] at hv ⊢
      exact hv
     ·unfold okD at ok ⊢
      rw [hw] at ok ⊢
      exact ok
    ·rename_i hs
     rw [if_neg hs]
     unfold sigD at e ⊢
     rw [hw] at e ⊢
     exact aop_mono (fun v h' n' ⟨s, e⟩ => ⟨s, ih _ _ _ _ (fun o ho => hgl o (by simp [ho])) e⟩) e
 refine hsame _ _ _ _ _ (fun o ho => ?_) (e _ (fun t h n k => k))
 have := Array.all_eq_true_iff_forall_mem.1 hg o (by simpa using ho)
 simpa using this
end Am
theorem BiK.append_ro {P : Program} {C : Ctx} {ty tx e : TypeId} {sz bytes : Nat} {zs : List Value} {x : AV} {es : List (List PD)} {h : Heap} {n : Nat}
  (ht : slE P ty = some e) (hs : tsz P e = some sz) (hz : tzero P e = some zs) (hzs : zs.length = sz) (hby : tby P e = some bytes) (htx : isIntT P tx = false)
  (hsrc : srcA h sz x = some (es.length, es.flatten.map .p)) (hes : okEs sz es) (hroom : es.length * bytes ≤ 70368744177664) (hbytes : bytes ≤ 1000000) (hmax : es.length ≤ 4611686018427387904) :
  BiK P C .append [ty, tx] [.one (.p (.v (.slice none 0 0))), x] h n (fun r h' n' => r = .one (.p (.sl sz es)) ∧ h' = h ∧ n' = n) := by
 intro a w ι Vs I hVs tyR cs
 have k := BiK.append_nil (P := P) (C := C) (h := h) (n := n) (K := fun r h' n' => ∃ cap' j, r = .one (.win (C.b + n) 1 0 es.length cap') ∧ h' = upd h (C.b + n) (rowB 1 es (List.replicate j .junk)) ∧ n' = n + 1)
  ht hs hz hzs hby htx hsrc (okEs_flat hes _) hroom hbytes hmax (fun cap' r _ _ => ⟨cap', r, rfl, rfl, rfl⟩)
 obtain ⟨v, w', av, h', n', ι', h1, ⟨cap', j, rfl, rfl, rfl⟩, h3, h4, h5⟩ := k a w ι Vs I hVs tyR cs
 have hbn : h (C.b + n) = none := I.bound _ (Nat.le_refl _)
 have hne : ∀ {i : Nat} {b : Blk}, h i = some b → i ≠ C.b + n := fun e1 e2 => by rw [e2, hbn] at e1; cases e1
 have hc : cutH (C.b + n) (upd h (C.b + n) (rowB 1 es (List.replicate j .junk))) = h := cutH_id rfl (fun id hid => upd_ne _ _ _ _ (by omega)) (fun id hid => I.bound id hid) I.heap.lowCells
 have I2 := h3.cut n (Nat.le_succ n)
 unfold St.cut at I2
 simp only at I2
 rw [hc] at I2
 refine ⟨v, w', _, h, n, ι', h1, ⟨rfl, rfl, rfl⟩, I2.junk, ?_, ⟨Nat.le_refl _, fun b hb hlt i blk e1 ne => h5.stab b hb hlt i blk (by rw [upd_ne _ _ _ _ (hne e1)]; exact e1) ne, h5.agree, fun i hi b' e1 => h5.blk i hi b' (by rw [upd_ne _ _ _ _ (hne e1)]; exact e1)⟩⟩
 cases h4 with
 | one hcell =>
   have hr := frz_row (bd' := C.b + n) h3.heap hcell (upd_same _ _ _) rfl rfl hes.len (row_cells hes 1 (List.replicate j .junk))
   have hd : delH (upd h (C.b + n) (rowB 1 es (List.replicate j .junk))) (C.b + n) = h := by
    funext i
    by_cases hi : i = C.b + n
    ·subst hi; rw [delH_same]; exact hbn.symm
    ·rw [delH_ne _ _ _ hi, upd_ne _ _ _ _ hi]
   rw [hd] at hr
   exact .one hr
set_option linter.unusedSimpArgs false
set_option linter.unusedVariables false
set_option linter.unnecessarySimpa false
open Go Am
abbrev encO (c : UInt8) : List PD := [.v (.int .u8 c.toNat)]
abbrev OctV (s : S) : AV := .one (.p (.sl 1 (s.map encO)))
theorem okEs_oct (l : S) : okEs 1 (l.map encO) := fun e he => by
 obtain ⟨x, _, rfl⟩ := List.mem_map.1 he
 refine ⟨rfl, fun d hd => ?_⟩
 simp at hd
 subst hd; rfl
structure Fl where
 name : S
 rank : Nat
 sum : Int
 blk : Int
 frm : Int
 len : Int
abbrev cK (a b : S) : Int := cmpP (parts a) (parts b)
theorem cK_eq {a b : S} : cK a b = 0 ↔ a = b := by
 rw [cmpP_tot.eq0]; exact ⟨parts_inj, fun e => by rw [e]⟩
theorem cK_anti (a b : S) : cK b a = - cK a b := cmpP_tot.anti _ _
theorem cK_tr {a b c : S} (h1 : cK a b < 0) (h2 : cK b c < 0) : cK a c < 0 := cmpP_tot.tr _ _ _ h1 h2
def mayF (f : Fl) : Bool := decide (0 ≤ f.blk) && (decide (f.blk ≤ 8192) && (decide (0 ≤ f.frm) && (decide (f.frm ≤ 65536) && (decide (0 ≤ f.len) && (decide (f.len ≤ 65536 - f.frm) && decide (chkN f.name = 0))))))
def aheadF (q : Option S) (p : S) : Bool := match q with
 | none => true
 | some q => decide (cK q p < 0)
def tabF : Option S → List Fl → Bool
 | _, [] => true
 | q, f :: fs => mayF f && (aheadF q f.name && tabF (some f.name) fs)
def checkT (l : List Fl) : Int := if 256 < l.length then 1 else if tabF none l = true then 0 else 1
def kL (p : S) : List Fl → Nat
 | [] => 0
 | g :: l => if cK g.name p < 0 then kL p l + 1 else 0
def hasL (p : S) : List Fl → Bool
 | [] => false
 | g :: l => if cK g.name p < 0 then hasL p l else decide (cK g.name p = 0)
theorem checkT_zero {l : List Fl} : checkT l = 0 ↔ l.length ≤ 256 ∧ tabF none l = true := by
 unfold checkT
 split
 ·rename_i h; exact ⟨fun e => absurd e (by decide), fun e => by omega⟩
 ·rename_i h
  split
  ·rename_i h2; exact ⟨fun _ => ⟨by omega, h2⟩, fun _ => rfl⟩
  ·rename_i h2; exact ⟨fun e => absurd e (by decide), fun e => absurd e.2 h2⟩
theorem tabF_cons {q : Option S} {f : Fl} {l : List Fl} : tabF q (f :: l) = true ↔ mayF f = true ∧ aheadF q f.name = true ∧ tabF (some f.name) l = true := by
 conv => lhs; unfold tabF
 simp only [Bool.and_eq_true]
theorem tabF_gt {a : S} {l : List Fl} (h : tabF (some a) l = true) : ∀ f ∈ l, cK a f.name < 0 := by
 induction l generalizing a with
 | nil => simp
 | cons x l ih =>
   obtain ⟨h1, h2, h3⟩ := tabF_cons.1 h
   unfold aheadF at h2
   simp only [decide_eq_true_eq] at h2
   intro f hf
   rcases List.mem_cons.1 hf with rfl | hf
   ·exact h2
   ·exact cK_tr h2 (ih h3 f hf)
theorem tabF_may {q : Option S} {l : List Fl} (h : tabF q l = true) : ∀ f ∈ l, mayF f = true := by
 induction l generalizing q with
 | nil => simp
 | cons x l ih =>
   obtain ⟨h1, _, h3⟩ := tabF_cons.1 h
   intro f hf
   rcases List.mem_cons.1 hf with rfl | hf
   ·exact h1
   ·exact ih h3 f hf
theorem mayF_chk {f : Fl} (h : mayF f = true) : chkN f.name = 0 := by
 unfold mayF at h
 simp only [Bool.and_eq_true, decide_eq_true_eq] at h
 exact h.2.2.2.2.2.2
theorem kL_le (p : S) (l : List Fl) : kL p l ≤ l.length := by
 induction l with
 | nil => exact Nat.le_refl _
 | cons x l ih => unfold kL; split <;> simp <;> omega
theorem kL_lo {p : S} : ∀ {l : List Fl} {j : Nat} (hj : j < l.length), j < kL p l → cK l[j].name p < 0
 | [], j, hj, _ => by simp at hj
 | x :: l, j, hj, h => by
   unfold kL at h
   split at h
   ·rename_i hx
    cases j with
    | zero => exact hx
    | succ j => exact kL_lo (l := l) (j := j) (by simp at hj; omega) (by omega)
   ·omega
theorem kL_hi {p : S} {q : Option S} : ∀ {l : List Fl} {j : Nat} (hj : j < l.length), tabF q l = true → kL p l ≤ j → ¬ cK l[j].name p < 0
 | [], j, hj, _, _ => by simp at hj
 | x :: l, j, hj, ht, h => by
   obtain ⟨h1, h2, h3⟩ := tabF_cons.1 ht
   unfold kL at h
   split at h
   ·cases j with
    | zero => omega
    | succ j => exact kL_hi (l := l) (j := j) (by simp at hj; omega) h3 (by omega)
   ·rename_i hx
    cases j with
    | zero => exact hx
    | succ j =>
      intro hlt
      have hm : l[j]'(by simp at hj; omega) ∈ l := List.getElem_mem _
      exact hx (cK_tr (tabF_gt h3 _ hm) hlt)
theorem hasL_k {p : S} : ∀ {l : List Fl}, hasL p l = true ↔ ∃ h : kL p l < l.length, cK (l[kL p l]'h).name p = 0
 | [] => by simp [hasL, kL]
 | x :: l => by
   unfold hasL kL
   split
   ·rw [hasL_k (l := l)]
    constructor
    ·rintro ⟨h1, h2⟩; exact ⟨by simp; omega, by simpa using h2⟩
    ·rintro ⟨h1, h2⟩; exact ⟨by simp at h1; omega, by simpa using h2⟩
   ·simp
def cmpF (a b : S) : Int := if a = b then 0 else if a = [] then -1 else if b = [] then 1 else cK a b
theorem cmpF_eq {a b : S} : cmpF a b = 0 ↔ a = b := by
 unfold cmpF
 split
 ·rename_i h; exact ⟨fun _ => h, fun _ => rfl⟩
 ·rename_i h
  split
  ·exact ⟨fun e => by omega, fun e => absurd e h⟩
  ·split
   ·exact ⟨fun e => by omega, fun e => absurd e h⟩
   ·exact ⟨fun e => absurd (cK_eq.1 e) h, fun e => absurd e h⟩
theorem cmpF_anti (a b : S) : cmpF b a = - cmpF a b := by
 unfold cmpF
 by_cases h : a = b
 ·rw [if_pos h, if_pos h.symm]; rfl
 ·rw [if_neg h, if_neg (fun e => h e.symm)]
  by_cases h1 : a = []
  ·rw [if_pos h1]
   by_cases h2 : b = []
   ·exact absurd (h1.trans h2.symm) h
   ·rw [if_neg h2, if_pos h1]; rfl
  ·rw [if_neg h1, if_neg h1]
   by_cases h2 : b = []
   ·rw [if_pos h2, if_pos h2]
   ·rw [if_neg h2, if_neg h2]; exact cK_anti a b
theorem cmpF_tr {a b c : S} (h1 : cmpF a b < 0) (h2 : cmpF b c < 0) : cmpF a c < 0 := by
 have n1 : a ≠ b := fun e => by rw [cmpF_eq.2 e] at h1; omega
 have n2 : b ≠ c := fun e => by rw [cmpF_eq.2 e] at h2; omega
 unfold cmpF at h1 h2 ⊢
 rw [if_neg n1] at h1
 rw [if_neg n2] at h2
 by_cases ha : a = []
 ·subst ha
  by_cases hc : c = []
  ·subst hc
   rw [if_neg (fun e => n1 e.symm), if_pos rfl] at h2; omega
  ·rw [if_neg (fun e => hc e.symm), if_pos rfl]; omega
 ·rw [if_neg ha] at h1
  by_cases hb : b = []
  ·rw [if_pos hb] at h1; omega
  ·rw [if_neg hb] at h1 h2
   by_cases hc : c = []
   ·rw [if_pos hc] at h2; omega
   ·rw [if_neg hc] at h2
    have h3 := cK_tr h1 h2
    rw [if_neg (fun e => by rw [cK_eq.2 e] at h3; omega), if_neg ha, if_neg hc]; exact h3
theorem cmpF_clean {a b : S} (ha : a ≠ []) (hb : b ≠ []) : cmpF a b = cK a b := by
 unfold cmpF
 by_cases h : a = b
 ·rw [if_pos h]; exact (cK_eq.2 h).symm
 ·rw [if_neg h, if_neg ha, if_neg hb]
section
variable {α : Type} (nm : α → S)
def Ris (l : List α) : Prop := l.Pairwise fun x y => cmpF (nm x) (nm y) < 0
def lowK (p : S) (l : List α) : List α := l.filter fun x => decide (cmpF (nm x) p < 0)
def higK (p : S) (l : List α) : List α := l.filter fun x => decide (0 < cmpF (nm x) p)
def getK (p : S) (l : List α) : Option α := l.find? fun x => decide (nm x = p)
def posK (p : S) (l : List α) : Nat := (lowK nm p l).length
def setK (p : S) (k : Option α) (l : List α) : List α := lowK nm p l ++ (k.toList ++ higK nm p l)
end
section
variable {α : Type} {nm : α → S}
theorem Ris.nil : Ris nm [] := List.Pairwise.nil
theorem Ris.cons {x : α} {l : List α} : Ris nm (x :: l) ↔ (∀ y ∈ l, cmpF (nm x) (nm y) < 0) ∧ Ris nm l := List.pairwise_cons
theorem Ris.sub {l m : List α} (h : Ris nm l) (s : m.Sublist l) : Ris nm m := h.sublist s
theorem getK_mem {p : S} {l : List α} {x : α} (h : getK nm p l = some x) : x ∈ l ∧ nm x = p := ⟨List.mem_of_find?_eq_some h, by have := List.find?_some h; simpa using this⟩
theorem getK_none {p : S} {l : List α} : getK nm p l = none ↔ ∀ x ∈ l, nm x ≠ p := by
 unfold getK; rw [List.find?_eq_none]; simp
theorem getK_of {p : S} {l : List α} (h : Ris nm l) {x : α} (hx : x ∈ l) (hp : nm x = p) : getK nm p l = some x := by
 induction l with
 | nil => cases hx
 | cons y l ih =>
   unfold getK
   rw [List.find?_cons]
   rcases List.mem_cons.1 hx with rfl | hx
   ·rw [decide_eq_true hp]
   ·have h1 := (Ris.cons.1 h).1 x hx
    have : nm y ≠ p := fun e => by rw [e, hp, cmpF_eq.2 rfl] at h1; omega
    rw [decide_eq_false this]
    exact ih (Ris.cons.1 h).2 hx
theorem splitK {p : S} : ∀ {l : List α}, Ris nm l → l = lowK nm p l ++ ((getK nm p l).toList ++ higK nm p l)
 | [], _ => rfl
 | x :: l, h => by
   obtain ⟨h1, h2⟩ := Ris.cons.1 h
   have ih := splitK (p := p) h2
   unfold lowK getK higK at ih ⊢
   rcases Int.lt_trichotomy (cmpF (nm x) p) 0 with hc | hc | hc
   ·have hne : nm x ≠ p := fun e => by rw [cmpF_eq.2 e] at hc; omega
    rw [List.filter_cons_of_pos (by simpa using hc), List.filter_cons_of_neg (by simp; omega), List.find?_cons_of_neg (by simpa using hne), List.cons_append]
    exact congrArg _ ih
   ·have he := cmpF_eq.1 hc
    have hl : ∀ y ∈ l, 0 < cmpF (nm y) p := fun y hy => by have := h1 y hy; rw [he] at this; rw [cmpF_anti]; omega
    rw [List.filter_cons_of_neg (by simp; omega), List.filter_cons_of_neg (by simp; omega), List.find?_cons_of_pos (by simpa using he)]
    have e1 : l.filter (fun x => decide (cmpF (nm x) p < 0)) = [] := List.filter_eq_nil_iff.2 (fun y hy => by have := hl y hy; simp; omega)
    have e2 : l.filter (fun x => decide (0 < cmpF (nm x) p)) = l := List.filter_eq_self.2 (fun y hy => by simpa using hl y hy)
    rw [e1, e2]; rfl
   ·have hne : nm x ≠ p := fun e => by rw [cmpF_eq.2 e] at hc; omega
    have hl : ∀ y ∈ l, 0 < cmpF (nm y) p := fun y hy => by
     have h3 := h1 y hy
     have h4 : cmpF p (nm x) < 0 := by rw [cmpF_anti]; omega
     have := cmpF_tr h4 h3
     rw [cmpF_anti]; omega
    have e1 : l.filter (fun x => decide (cmpF (nm x) p < 0)) = [] := List.filter_eq_nil_iff.2 (fun y hy => by have := hl y hy; simp; omega)
    have e2 : l.filter (fun x => decide (0 < cmpF (nm x) p)) = l := List.filter_eq_self.2 (fun y hy => by simpa using hl y hy)
    have e3 : l.find? (fun x => decide (nm x = p)) = none := List.find?_eq_none.2 (fun y hy => by
     have := hl y hy
     simp only [decide_eq_true_eq]
     intro e; rw [cmpF_eq.2 e] at this; omega)
    rw [List.filter_cons_of_neg (by simp; omega), List.filter_cons_of_pos (by simpa using hc), List.find?_cons_of_neg (by simpa using hne), e1, e2, e3]; rfl
theorem posK_le (p : S) (l : List α) : posK nm p l ≤ l.length := List.length_filter_le _ _
theorem takeK {p : S} {l : List α} (h : Ris nm l) : l.take (posK nm p l) = lowK nm p l := by
 conv => lhs; arg 2; rw [splitK (p := p) h]
 exact List.take_left
theorem dropK {p : S} {l : List α} (h : Ris nm l) : l.drop (posK nm p l) = (getK nm p l).toList ++ higK nm p l := by
 conv => lhs; arg 2; rw [splitK (p := p) h]
 exact List.drop_left
theorem atK {p : S} {l : List α} (h : Ris nm l) {x : α} (hx : getK nm p l = some x) : ∃ hk : posK nm p l < l.length, l[posK nm p l] = x := by
 have := dropK (p := p) h
 rw [hx, Option.toList_some, List.singleton_append] at this
 have hk : posK nm p l < l.length := by
  rcases Nat.lt_or_ge (posK nm p l) l.length with h1 | h1
  ·exact h1
  ·rw [List.drop_of_length_le h1] at this; cases this
 exact ⟨hk, by rw [List.drop_eq_getElem_cons hk] at this; exact (List.cons.inj this).1⟩
theorem dropK1 {p : S} {l : List α} (h : Ris nm l) {x : α} (hx : getK nm p l = some x) : l.drop (posK nm p l + 1) = higK nm p l := by
 obtain ⟨hk, he⟩ := atK h hx
 have := dropK (p := p) h
 rw [hx, Option.toList_some, List.singleton_append, List.drop_eq_getElem_cons hk] at this
 exact (List.cons.inj this).2
theorem posK_lo {p : S} {l : List α} (h : Ris nm l) (j : Nat) (hj : j < l.length) (hk : j < posK nm p l) : cmpF (nm l[j]) p < 0 := by
 have h1 : l[j] ∈ l.take (posK nm p l) := by
  have : (l.take (posK nm p l))[j]'(by rw [List.length_take]; omega) = l[j] := List.getElem_take
  rw [← this]; exact List.getElem_mem _
 rw [takeK h] at h1
 simpa using (List.mem_filter.1 h1).2
theorem posK_hi {p : S} {l : List α} (h : Ris nm l) (j : Nat) (hj : j < l.length) (hk : posK nm p l ≤ j) : ¬ cmpF (nm l[j]) p < 0 := by
 have h1 : l[j] ∈ l.drop (posK nm p l) := by
  rw [List.mem_iff_getElem]
  exact ⟨j - posK nm p l, by rw [List.length_drop]; omega, by rw [List.getElem_drop]; congr 1; omega⟩
 rw [dropK h] at h1
 rcases List.mem_append.1 h1 with h1 | h1
 ·obtain ⟨_, e⟩ := getK_mem (Option.mem_toList.1 h1)
  rw [cmpF_eq.2 e]; omega
 ·have := (List.mem_filter.1 h1).2
  simp only [decide_eq_true_eq] at this; omega
theorem isK {p : S} {l : List α} (h : Ris nm l) : (getK nm p l).isSome = true ↔ ∃ hk : posK nm p l < l.length, cmpF (nm l[posK nm p l]) p = 0 := by
 constructor
 ·intro e
  obtain ⟨x, hx⟩ := Option.isSome_iff_exists.1 e
  obtain ⟨hk, he⟩ := atK h hx
  exact ⟨hk, by rw [he]; exact cmpF_eq.2 (getK_mem hx).2⟩
 ·rintro ⟨hk, he⟩
  rw [getK_of h (List.getElem_mem hk) (cmpF_eq.1 he)]; rfl
theorem low_mem {p : S} {l : List α} {x : α} : x ∈ lowK nm p l ↔ x ∈ l ∧ cmpF (nm x) p < 0 := by unfold lowK; simp
theorem hig_mem {p : S} {l : List α} {x : α} : x ∈ higK nm p l ↔ x ∈ l ∧ 0 < cmpF (nm x) p := by unfold higK; simp
theorem set_mem {p : S} {l : List α} {k : Option α} {x : α} : x ∈ setK nm p k l ↔ k = some x ∨ (x ∈ l ∧ nm x ≠ p) := by
 unfold setK
 rw [List.mem_append, List.mem_append, low_mem, hig_mem, Option.mem_toList]
 constructor
 ·rintro (⟨h1, h2⟩ | h | ⟨h1, h2⟩)
  ·exact .inr ⟨h1, fun e => by rw [cmpF_eq.2 e] at h2; omega⟩
  ·exact .inl h
  ·exact .inr ⟨h1, fun e => by rw [cmpF_eq.2 e] at h2; omega⟩
 ·rintro (h | ⟨h1, h2⟩)
  ·exact .inr (.inl h)
  ·rcases Int.lt_trichotomy (cmpF (nm x) p) 0 with hc | hc | hc
   ·exact .inl ⟨h1, hc⟩
   ·exact absurd (cmpF_eq.1 hc) h2
   ·exact .inr (.inr ⟨h1, hc⟩)
theorem Ris.set {p : S} {l : List α} {k : Option α} (h : Ris nm l) (hk : ∀ x, k = some x → nm x = p) : Ris nm (setK nm p k l) := by
 unfold setK
 refine List.pairwise_append.2 ⟨h.sub List.filter_sublist, List.pairwise_append.2 ⟨?_, h.sub List.filter_sublist, ?_⟩, ?_⟩
 ·cases k with
  | none => exact List.Pairwise.nil
  | some x => exact List.pairwise_singleton _ _
 ·intro x hx y hy
  rw [hk x (Option.mem_toList.1 hx)]
  have := (hig_mem.1 hy).2
  rw [cmpF_anti]; omega
 ·intro x hx y hy
  have h1 := (low_mem.1 hx).2
  rcases List.mem_append.1 hy with hy | hy
  ·rw [hk y (Option.mem_toList.1 hy)]; exact h1
  ·have h2 := (hig_mem.1 hy).2
   exact cmpF_tr h1 (by rw [cmpF_anti]; omega)
theorem get_set {p q : S} {l : List α} {k : Option α} (h : Ris nm l) (hk : ∀ x, k = some x → nm x = p) : getK nm q (setK nm p k l) = if q = p then k else getK nm q l := by
 have hr := h.set hk
 split
 ·rename_i e
  subst e
  cases k with
  | none =>
    rw [getK_none]
    intro x hx
    rcases set_mem.1 hx with h1 | h1
    ·cases h1
    ·exact h1.2
  | some x => exact getK_of hr (set_mem.2 (.inl rfl)) (hk x rfl)
 ·rename_i e
  cases hg : getK nm q l with
  | none =>
    rw [getK_none] at hg ⊢
    intro x hx
    rcases set_mem.1 hx with h1 | h1
    ·rw [hk x h1]; exact fun e' => e e'.symm
    ·exact hg x h1.1
  | some x =>
    obtain ⟨h1, h2⟩ := getK_mem hg
    exact getK_of hr (set_mem.2 (.inr ⟨h1, by rw [h2]; exact e⟩)) h2
theorem ext_get : ∀ {l m : List α}, Ris nm l → Ris nm m → (∀ p, getK nm p l = getK nm p m) → l = m
 | [], [], _, _, _ => rfl
 | [], y :: m, _, _, h => by
   have := h (nm y)
   unfold getK at this
   rw [List.find?_cons_of_pos (by simp)] at this
   cases this
 | x :: l, [], _, _, h => by
   have := h (nm x)
   unfold getK at this
   rw [List.find?_cons_of_pos (by simp)] at this
   cases this
 | x :: l, y :: m, hl, hm, h => by
   obtain ⟨l1, l2⟩ := Ris.cons.1 hl
   obtain ⟨m1, m2⟩ := Ris.cons.1 hm
   have hx := h (nm x)
   rw [getK_of hl (List.mem_cons_self) rfl] at hx
   have hy := h (nm y)
   rw [getK_of hm (List.mem_cons_self) rfl] at hy
   have mx := (getK_mem hx.symm).1
   have my := (getK_mem hy).1
   have e : x = y := by
    rcases List.mem_cons.1 mx with e | mx
    ·exact e
    ·rcases List.mem_cons.1 my with e | my
     ·exact e.symm
     ·have a1 := m1 x mx
      have a2 := l1 y my
      rw [cmpF_anti] at a2; omega
   subst e
   have : l = m := ext_get l2 m2 (fun p => by
    by_cases e : nm x = p
    ·subst e
     have n1 : getK nm (nm x) l = none := getK_none.2 (fun z hz e => by have := l1 z hz; rw [cmpF_eq.2 e.symm] at this; omega)
     have n2 : getK nm (nm x) m = none := getK_none.2 (fun z hz e => by have := m1 z hz; rw [cmpF_eq.2 e.symm] at this; omega)
     rw [n1, n2]
    ·have := h p
     unfold getK at this ⊢
     rwa [List.find?_cons_of_neg (by simpa using e), List.find?_cons_of_neg (by simpa using e)] at this)
   rw [this]
theorem set_len {p : S} {l : List α} {k : Option α} : (setK nm p k l).length ≤ l.length + 1 := by
 unfold setK
 rw [List.length_append, List.length_append]
 have h1 : (lowK nm p l).length + (higK nm p l).length ≤ l.length := by
  induction l with
  | nil => exact Nat.le_refl _
  | cons x l ih =>
    unfold lowK higK at ih ⊢
    rw [List.filter_cons, List.filter_cons]
    by_cases a : cmpF (nm x) p < 0
    ·rw [if_pos (by simpa using a), if_neg (by simp; omega)]; simp only [List.length_cons]; omega
    ·rw [if_neg (by simpa using a)]
     split <;> simp only [List.length_cons] <;> omega
 have : k.toList.length ≤ 1 := by cases k <;> simp
 omega
end
set_option linter.unusedSimpArgs false
set_option linter.unusedVariables false
set_option linter.unnecessarySimpa false
open Go Am
def riseF : Option S → List S → Bool
 | _, [] => true
 | q, p :: ps => decide (chkN p = 0) && ((match q with
   | none => true
   | some q => decide ((cmpN q p).2 = 0) && decide ((cmpN q p).1 < 0)) && riseF (some p) ps)
def risesX (l : List S) (most : Nat) : Bool := riseF none l && decide (l.length ≤ most)
def dirsX : List S → List S
 | [] :: ds => ds
 | ds => ds
def mayX (rn rd : List S) : Int := if rd.length ≤ 1024 ∧ risesX rn 1024 = true ∧ risesX (dirsX rd) 1024 = true then 0 else 1
theorem riseF_mem {q : Option S} {l : List S} (h : riseF q l = true) : ∀ p ∈ l, chkN p = 0 := by
 induction l generalizing q with
 | nil => simp
 | cons x xs ih =>
   unfold riseF at h
   simp only [Bool.and_eq_true, decide_eq_true_eq] at h
   intro p hp
   rcases List.mem_cons.1 hp with rfl | hp
   ·exact h.1
   ·exact ih h.2.2 p hp
structure Ed where
 name : S
 gone : Bool
 rank : Nat
 of : S
 data : S
structure Sg where
 gen : Int
 t : List Fl
 ed : List Ed
 names : List S
 dirs : List S
abbrev nmE (x : Ed) : S := x.name
abbrev nmQ (s : S) : S := s
def zSg : Sg := ⟨0, [], [], [], []⟩
def goneE (p : S) : Ed := ⟨p, true, 0, [], []⟩
def canonE (r : Nat) : Nat := if (FloatKind.f64.format.order r r != some .eq) = true then 9221120237041090561 else r
def fileT (t : List Fl) (p : S) : Option Fl := if checkT t ≠ 0 ∨ chkN p ≠ 0 then none else if hasL p t = true then t[kL p t]? else none
def mayE (k : Nat → Int) (t : List Fl) (x : Ed) : Bool :=
 decide (chkN x.name = 0) && (if x.gone = true then decide (k x.rank = k 0) && (decide (x.of = []) && decide (x.data = []))
  else if x.of = [] then decide (x.data.length ≤ 65536)
  else (fileT t x.of).isSome && decide (x.data.length = 0))
def ckE (k : Nat → Int) (t : List Fl) : Option S → List Ed → Bool
 | _, [] => true
 | q, x :: l => mayE k t x && ((match q with | none => true | some p => decide (cmpF p x.name < 0)) && ckE k t (some x.name) l)
def checkS (k : Nat → Int) (s : Sg) : Int :=
 if 1099511627776 < s.gen ∨ checkT s.t ≠ 0 ∨ mayX s.names s.dirs ≠ 0 ∨ 256 < s.ed.length then 1 else if ckE k s.t none s.ed = true then 0 else 1
def whatS (s : Sg) (p : S) : Ed := match getK nmE p s.ed with
 | some x => x
 | none => match fileT s.t p with
   | some f => ⟨p, false, f.rank, p, []⟩
   | none => goneE p
def putQ (l : List S) (p : S) : List S := setK nmQ p (some p) l
def readS (s : Sg) (e : Int) (p : S) : Sg × Int :=
 if (getK nmQ p s.names).isSome = true ∨ e ≠ 0 then (s, e) else if s.names.length = 1024 then (s, 6) else ({ s with names := putQ s.names p }, e)
def editS (s : Sg) (e : Int) (x : Ed) : Sg × Int :=
 if e ≠ 0 then (s, e) else if (getK nmE x.name s.ed).isSome = true ∨ s.ed.length ≠ 256 then ({ s with ed := setK nmE x.name (some x) s.ed }, e) else (s, 6)
def moveS (s : Sg) (p q : S) : Int × Sg × Int :=
 if (whatS s p).gone = true then (4, s, 0) else if p = q then (0, s, 0) else if (whatS s q).gone = false then (5, s, 0)
 else (0, editS (editS s 0 { whatS s p with name := q }).1 (editS s 0 { whatS s p with name := q }).2 (goneE p))
def startS (k : Nat → Int) (s : Sg) (names : List S) : Int := names.foldl (fun e p => if e = 0 then chkN p else e) (checkS k s)
def endS (r : Sg × Int) : Sg × Int := if r.2 ≠ 0 then (zSg, r.2) else (r.1, 0)
def seeS (k : Nat → Int) (s : Sg) (p : S) : Ed × Sg × Int :=
 if startS k s [p] ≠ 0 then (⟨[], false, 0, [], []⟩, zSg, startS k s [p])
 else let r := readS s 0 p
  if r.2 ≠ 0 then (⟨[], false, 0, [], []⟩, zSg, r.2) else (whatS r.1 p, r.1, 0)
def putS (k : Nat → Int) (s : Sg) (p : S) (r : Nat) (data : S) : Sg × Int :=
 if startS k s [p] ≠ 0 then (zSg, startS k s [p]) else if 65536 < data.length then (zSg, 3)
 else endS (editS s 0 ⟨p, false, canonE r, [], data⟩)
def movS (k : Nat → Int) (s : Sg) (p q : S) : Int × Sg × Int :=
 if startS k s [p, q] ≠ 0 then (0, zSg, startS k s [p, q])
 else let r := readS (readS s 0 p).1 (readS s 0 p).2 q
  if r.2 ≠ 0 then (0, zSg, r.2) else
   let m := moveS r.1 p q
   if m.2.2 ≠ 0 then (0, zSg, m.2.2) else (m.1, m.2.1, 0)
end Go.Proofs.YtihgnpboabpchaaGreatDoor
namespace Go.Proofs.YtihgnpboabpchaaGreatDoor.Am
set_option linter.unusedSimpArgs false
set_option linter.unusedVariables false
set_option linter.unnecessarySimpa false
open Go
def delP (h : Heap) (D : Nat → Bool) : Heap := fun i => if D i = true then none else h i
theorem delP_some {h : Heap} {D : Nat → Bool} {i : Nat} {b : Blk} (e : delP h D i = some b) : D i ≠ true ∧ h i = some b := by
 unfold delP at e
 split at e
 ·cases e
 ·exact ⟨by assumption, e⟩
theorem delP_less {h : Heap} {D : Nat → Bool} : ∀ id b, delP h D id = some b → h id = some b := fun _ _ e => (delP_some e).2
theorem stab_delP {ι : Nat → Nat} {h : Heap} {D : Nat → Bool} {x : Nat} (s : stab ι h x) : stab ι (delP h D) x := fun id blk e ne => s id blk (delP_less _ _ e) ne
theorem stab_at {ι : Nat → Nat} {h : Heap} {bd : Nat} {w : World} (H : HeapOK ι h bd w) {D : Nat → Bool} {id : Nat} {blk : Blk} (hb : h id = some blk) (hne : blk.cells ≠ []) (hD : D id = true) : stab ι (delP h D) (ι id) := by
 intro id' blk' e ne heq
 obtain ⟨h1, h2⟩ := delP_some e
 have := H.inj id' id blk' blk h2 hb ne hne heq
 subst this
 exact h1 hD
inductive View (h : Heap) (D : Nat → Bool) : Cell → PD → Prop
 | p (d : PD) : View h D (.p d) d
 | nil (sz : Nat) : View h D (.p (.v (.slice none 0 0))) (.sl sz [])
 | win {id ver off len cap sz : Nat} {es : List (List PD)} {blk : Blk} (X : Nat → Nat → Cell) (hD : D id = true) (hb : h id = some blk) (hv : blk.ver = ver) (hlen : es.length = len) (hsz : ∀ e ∈ es, e.length = sz)
   (hc : ∀ (i : Nat) (e : List PD), es[i]? = some e → ∀ (j : Nat) (x : PD), e[j]? = some x → blk.cells[off + (i * sz + j)]? = some (X i j))
   (hx : ∀ (i : Nat) (e : List PD), es[i]? = some e → ∀ (j : Nat) (x : PD), e[j]? = some x → View h D (X i j) x) : View h D (.win id ver off len cap) (.sl sz es)
inductive ViewC (h : Heap) (D : Nat → Bool) : Cell → Cell → Prop
 | same (c : Cell) : ViewC h D c c
 | p {c : Cell} {d : PD} (v : View h D c d) : ViewC h D c (.p d)
 | ptr {id ver off : Nat} {cs : List PD} {blk : Blk} (X : Nat → Cell) (hD : D id = true) (hb : h id = some blk) (hv : blk.ver = ver) (hne : blk.cells ≠ [])
   (hc : ∀ (j : Nat) (x : PD), cs[j]? = some x → blk.cells[off + j]? = some (X j)) (hx : ∀ (j : Nat) (x : PD), cs[j]? = some x → View h D (X j) x) : ViewC h D (.ptr id ver off) (.ro cs)
 | clo {fn : Fn} {cap cap' : List Cell} (hl : cap'.length = cap.length) (hc : ∀ (i : Nat) (c d : Cell), cap[i]? = some c → cap'[i]? = some d → ViewC h D c d) : ViewC h D (.clo fn [] cap) (.clo fn [] cap')
inductive ViewV (h : Heap) (D : Nat → Bool) : AV → AV → Prop
 | same (a : AV) : ViewV h D a a
 | one {c d : Cell} (v : ViewC h D c d) : ViewV h D (.one c) (.one d)
 | agg {cs ds : List Cell} (hl : ds.length = cs.length) (hc : ∀ (i : Nat) (c d : Cell), cs[i]? = some c → ds[i]? = some d → ViewC h D c d) : ViewV h D (.agg cs) (.agg ds)
def noH : Heap := fun _ => none
theorem delP_all (h : Heap) : delP h (fun _ => true) = noH := by funext i; rfl
theorem View.ok {ι : Nat → Nat} {h : Heap} {D : Nat → Bool} {bd : Nat} {w : World} (H : HeapOK ι h bd w) {c : Cell} {d : PD} (v : View h D c d) : ∀ {x : Value}, RCell ι h bd w c x → RPD (stab ι (delP h D)) w d x := by
 induction v with
 | p d => intro x r; cases r with | p hd => exact hd.mono (fun _ s _ => stab_delP s) (fun _ _ _ => rfl)
 | nil sz =>
   intro x r
   cases r with
   | p hd => cases hd with
     | v => exact RPD.sl (sz := sz) (es := []) none 0 (fun _ _ => undef) (Nat.le_refl _) (fun _ => rfl) (fun _ e => by cases e) (fun _ e => by cases e) (fun _ _ e => by simp at e) (fun _ _ e => by simp at e)
 | @win id ver off len cap sz es blk X hD hb hv hlen hsz hc hx ih =>
   intro x r
   cases r with
   | win hid hver hX =>
     obtain ⟨hlc, hX⟩ := hX blk hb hv
     rcases hX with rfl | ⟨rfl, h0, h1⟩
     ·by_cases hne : blk.cells = []
      ·have hno : ∀ (i : Nat) (e : List PD), es[i]? = some e → ∀ (j : Nat) (y : PD), e[j]? = some y → False := fun i e he j y hy => by have := hc i e he j y hy; rw [hne] at this; simp at this
       have := RPD.sl (S := stab ι (delP h D)) (w := w) (sz := sz) (es := es) (some ⟨ι id, off, none⟩) cap (fun _ _ => undef) (by omega) (fun hn => by cases hn) (fun A hA => by injection hA with hA; subst hA; exact .inr rfl) hsz
        (fun i e he j y hy => (hno i e he j y hy).elim) (fun i e he j y hy => (hno i e he j y hy).elim)
       rw [hlen] at this
       exact this
      ·obtain ⟨cc, ty, g1, g2, g3⟩ := H.blk id blk hb hne
       have := RPD.sl (S := stab ι (delP h D)) (w := w) (sz := sz) (es := es) (some ⟨ι id, off, none⟩) cap (fun i j => cc.getD (off + (i * sz + j)) undef) (by omega) (fun hn => by cases hn) (fun A hA => by injection hA with hA; subst hA; exact .inr rfl) hsz
        (fun i e he j y hy => by
         have hx' := hc i e he j y hy
         have hlt : off + (i * sz + j) < cc.size := by rw [g2]; exact (List.getElem?_eq_some_iff.1 hx').1
         refine ⟨_, rfl, stab_at H hb hne hD, ?_⟩
         simp [World.cell?, g1, Array.getD, hlt])
        (fun i e he j y hy => by
         have hx' := hc i e he j y hy
         have hlt : off + (i * sz + j) < cc.size := by rw [g2]; exact (List.getElem?_eq_some_iff.1 hx').1
         have hr := g3 _ _ _ hx' (Array.getElem?_eq_getElem hlt)
         have e1 : cc.getD (off + (i * sz + j)) undef = cc[off + (i * sz + j)] := by simp [Array.getD, hlt]
         show RPD _ _ _ (cc.getD (off + (i * sz + j)) undef)
         rw [e1]
         exact ih i e he j y hy hr)
       rw [hlen] at this
       exact this
     ·have hes : es = [] := List.eq_nil_of_length_eq_zero (by omega)
      subst hes
      exact RPD.sl (sz := sz) (es := []) none 0 (fun _ _ => undef) (Nat.le_refl _) (fun _ => rfl) (fun _ e => by cases e) (fun _ e => by cases e) (fun _ _ e => by simp at e) (fun _ _ e => by simp at e)
theorem ViewC.ok {ι : Nat → Nat} {h : Heap} {D : Nat → Bool} {bd : Nat} {w : World} (H : HeapOK ι h bd w) {c d : Cell} (v : ViewC h D c d) : ∀ {x : Value}, RCell ι h bd w c x → RCell ι (delP h D) bd w d x := by
 induction v with
 | same c => intro x r; exact r.move (.less delP_less)
 | p v => intro x r; exact .p (v.ok H r)
 | @ptr id ver off cs blk X hD hb hv hne hc hx =>
   intro x r
   cases r with
   | ptr hid hver hX =>
     have := hX blk hb hv
     subst this
     obtain ⟨cc, ty, g1, g2, g3⟩ := H.blk id blk hb hne
     refine .ro ⟨ι id, off, none⟩ (fun j => cc.getD (off + j) undef) rfl (fun j y hy => ?_)
     have hx' := hc j y hy
     have hlt : off + j < cc.size := by rw [g2]; exact (List.getElem?_eq_some_iff.1 hx').1
     have hr := g3 _ _ _ hx' (Array.getElem?_eq_getElem hlt)
     have e1 : cc.getD (off + j) undef = cc[off + j] := by simp [Array.getD, hlt]
     refine ⟨stab_at H hb hne hD, ?_, ?_⟩
     ·simp [World.cell?, g1, Array.getD, hlt]
     ·rw [e1]; exact (hx j y hy).ok H hr
 | @clo fn cap cap' hl hc ih =>
   intro x r
   cases r with
   | clo F C hF hC h1 h2 =>
     refine .clo F C hF (hC.trans hl.symm) (fun i c u e => by simp at e) (fun i d u e1 e2 => ?_)
     have hlt := (List.getElem?_eq_some_iff.1 e1).1
     have e0 := List.getElem?_eq_getElem (l := cap) (i := i) (hl ▸ hlt)
     exact ih i _ d e0 e1 (h2 i _ u e0 e2)
theorem ViewV.ok {ι : Nat → Nat} {h : Heap} {D : Nat → Bool} {bd : Nat} {w : World} (H : HeapOK ι h bd w) {a b : AV} (v : ViewV h D a b) {x : Value} (r : RAV ι h bd w a x) : RAV ι (delP h D) bd w b x := by
 cases v with
 | same => exact r.move (.less delP_less)
 | one v => cases r with | one hr => exact .one (v.ok H hr)
 | agg hl hc =>
   cases r with
   | agg V hV hv =>
     refine .agg V (hV.trans hl.symm) (fun i d u hd hu => ?_)
     have hlt := (List.getElem?_eq_some_iff.1 hd).1
     exact (hc i _ d (List.getElem?_eq_getElem (hl ▸ hlt)) hd).ok H (hv i _ u (List.getElem?_eq_getElem (hl ▸ hlt)) hu)
inductive ViewL (h : Heap) (D : Nat → Bool) : List AV → List AV → Prop
 | nil : ViewL h D [] []
 | cons {a b : AV} {al bl : List AV} (v : ViewV h D a b) (r : ViewL h D al bl) : ViewL h D (a :: al) (b :: bl)
theorem ViewL.ok {ι : Nat → Nat} {h : Heap} {D : Nat → Bool} {bd : Nat} {w : World} (H : HeapOK ι h bd w) {al bl : List AV} (v : ViewL h D al bl) : ∀ {vs : List Value}, RAVs ι h bd w al vs → RAVs ι (delP h D) bd w bl vs := by
 induction v with
 | nil => intro vs r; exact ⟨r.1, fun i c u hc hu => by simp at hc⟩
 | @cons a b al bl v _ ih =>
   intro vs r
   match vs, r with
   | [], r => have := r.1; simp at this
   | x :: vs, r =>
     obtain ⟨h1, h2⟩ := ih (vs := vs) ⟨by have := r.1; simpa using this, fun i c u hc hu => r.2 (i + 1) c u (by simpa using hc) (by simpa using hu)⟩
     refine ⟨by simp [h1], fun i c u hc hu => ?_⟩
     match i with
     | 0 => simp at hc hu; subst hc; subst hu; exact v.ok H (r.2 0 a x rfl rfl)
     | i + 1 => exact h2 i c u (by simpa using hc) (by simpa using hu)
theorem ACalls.seal {P : Program} {f : FuncId} {args args' : List AV} {h : Heap} {b m : Nat} {R : AV → Heap → Prop} (D : Nat → Bool) (c : ACalls P f args' (delP h D) b m R) (hv : ViewL h D args args') : ACalls P f args h b m R := by
 intro ι w vs hb hh ha
 refine (c ι w vs (fun id hid => by unfold delP; rw [hb id hid]; simp) (hh.less delP_less) (hv.ok hh ha)).mono ?_
 rintro e w' ⟨v, r, h', ι', rfl, hR, hp, hr⟩
 exact ⟨v, r, h', ι', rfl, hR, ⟨fun id hid b' e => (by
  obtain ⟨b0, h0, h1⟩ := hp.outer id hid b' e
  exact ⟨b0, delP_less _ _ h0, h1⟩), hp.fresh, hp.bound, hp.heap, ⟨hp.keeps.size, hp.keeps.os, hp.keeps.output, fun x s hx => hp.keeps.old x (stab_delP s) hx⟩⟩, hr⟩
inductive Exact : AV → Prop
 | one (x : Value) : Exact (.one (.p (.v x)))
 | agg {cs : List Cell} (hc : ∀ c ∈ cs, ∃ x, c = .p (.v x)) : Exact (.agg cs)
 | tup {vs : List AV} (hv : ∀ v ∈ vs, ∃ x, v = .one (.p (.v x))) : Exact (.tup vs)
theorem Exact.move {r : AV} (e : Exact r) {ι ι' : Nat → Nat} {h h' : Heap} {bd bd' : Nat} {w w' : World} {x : Value} (a : RAV ι h bd w r x) : RAV ι' h' bd' w' r x := by
 cases e with
 | one y => rw [rav_v_inv a]; exact rav_v y
 | agg hc =>
   cases a with
   | agg V hl hv =>
     refine .agg V hl (fun i c u h1 h2 => ?_)
     obtain ⟨y, rfl⟩ := hc c (List.mem_of_getElem? h1)
     have := rav_v_inv (.one (hv i _ u h1 h2))
     subst this
     exact .p (.v _)
 | tup hv =>
   cases a with
   | tup V hl hw =>
     refine .tup V hl (fun i c u h1 h2 => ?_)
     obtain ⟨y, rfl⟩ := hv c (List.mem_of_getElem? h1)
     rw [rav_v_inv (hw i _ u h1 h2)]
     exact rav_v y
theorem ACalls.lend {P : Program} {f : FuncId} {args args' : List AV} {h : Heap} {b : Nat} {r : AV} (c : ACalls P f args' noH b 0 (fun r' h' => r' = r ∧ h' = noH)) (hv : ViewL h (fun _ => true) args args') (he : Exact r) :
  ACalls P f args h b 0 (fun r' h' => r' = r ∧ h' = h) := by
 intro ι w vs hb hh ha
 have H0 : HeapOK ι noH b w := ⟨fun _ _ e => (by cases e), fun _ _ _ _ e => (by cases e)⟩
 have ha' := hv.ok hh ha
 rw [delP_all] at ha'
 refine (c ι w vs (fun _ _ => rfl) H0 ha').mono ?_
 rintro e w' ⟨v, r', h', ι', rfl, ⟨rfl, _⟩, hp, hr⟩
 have ag : ∀ S : Nat → Prop, AgreeOn S w w' := fun S x _ hx => hp.keeps.old x (fun _ _ e => (by cases e)) hx
 refine ⟨v, r', h, ι, rfl, ⟨rfl, rfl⟩, ⟨fun id _ b' e => ⟨b', e, .refl _ _ _⟩, fun id hid b' e => (by rw [hb id hid] at e; cases e), fun id hid => hb id (by omega), ⟨fun id blk e ne => ?_, hh.inj⟩, ⟨hp.keeps.size, hp.keeps.os, hp.keeps.output, ag _⟩⟩, he.move hr⟩
 obtain ⟨cc, ty, h1, h2, h3⟩ := hh.blk id blk e ne
 have M : Moves ι h b w ι h b w' := Moves.world (ag _)
 exact ⟨cc, ty, (ag (fun _ => True) _ trivial (Array.getElem?_eq_some_iff.1 h1).1).trans h1, h2, fun j d u hd hu => (h3 j d u hd hu).move M⟩
theorem view_rowT {h : Heap} {D : Nat → Bool} {id ver sz m j off cap : Nat} {es : List (List PD)} {T : List Cell} (hD : D id = true) (hb : h id = some (rowB ver es T)) (ho : okEs sz es) (hj : j + m ≤ es.length) (hoff : off = j * sz) :
  ViewC h D (.win id ver off m cap) (.p (.sl sz ((es.drop j).take m))) := by
 refine .p (.win (blk := rowB ver es T) (fun i k => .p ((((es.drop j).take m).getD i []).getD k (.v undef))) hD hb rfl (by rw [List.length_take, List.length_drop]; omega) (fun e he => ho.len e (List.mem_of_mem_drop (List.mem_of_mem_take he))) (fun i e he k x hx => ?_) (fun i e he k x hx => ?_))
 ·have e1 : (((es.drop j).take m).getD i []) = e := by simp [List.getD, he]
  have e2 : (e.getD k (.v undef)) = x := by simp [List.getD, hx]
  simp only [e1, e2]
  rw [List.getElem?_take] at he
  split at he
  ·rw [List.getElem?_drop] at he
   have := row_cells ho ver T (j + i) e he k x hx
   rw [Nat.zero_add, Nat.add_mul] at this
   rw [hoff, ← Nat.add_assoc]
   exact this
  ·cases he
 ·have e1 : (((es.drop j).take m).getD i []) = e := by simp [List.getD, he]
  have e2 : (e.getD k (.v undef)) = x := by simp [List.getD, hx]
  simp only [e1, e2]
  exact .p x
end Go.Proofs.YtihgnpboabpchaaGreatDoor.Am
namespace Go.Proofs.YtihgnpboabpchaaGreatDoor
set_option linter.unusedSimpArgs false
set_option linter.unusedVariables false
set_option linter.unnecessarySimpa false
open Go Am
abbrev ReadsV (rn rd : List S) : AV := .agg [.p (.sl 1 (rn.map encS)), .p (.sl 1 (rd.map encS))]
abbrev encF (f : Fl) : List PD := [.v (.string (mkS f.name)), .v (.float .f64 f.rank), .v (.int .u32 f.sum), .v (.int .i64 f.blk), .v (.int .i64 f.frm), .v (.int .i64 f.len)]
abbrev FlV (f : Fl) : AV := .agg ((encF f).map .p)
abbrev FlsV (l : List Fl) : AV := .one (.p (.sl 6 (l.map encF)))
theorem encF_getD (l : List Fl) (i : Nat) (h : i < l.length) : (l.map encF).getD i [] = encF l[i] := by simp [List.getD, h]
theorem okEs_fl (l : List Fl) : okEs 6 (l.map encF) := fun e he => by
 obtain ⟨x, _, rfl⟩ := List.mem_map.1 he
 refine ⟨rfl, fun d hd => ?_⟩
 simp at hd
 rcases hd with rfl | rfl | rfl | rfl | rfl | rfl <;> rfl
abbrev encEd (x : Ed) : List PD := [.v (.string (mkS x.name)), .v (.bool x.gone), .v (.float .f64 x.rank), .v (.string (mkS x.of)), .sl 1 (x.data.map encO)]
abbrev EdV (x : Ed) : AV := .agg ((encEd x).map .p)
abbrev EdsV (l : List Ed) : AV := .one (.p (.sl 5 (l.map encEd)))
theorem okEs_ed (l : List Ed) : okEs 5 (l.map encEd) := fun e he => by
 obtain ⟨x, _, rfl⟩ := List.mem_map.1 he
 refine ⟨rfl, fun d hd => ?_⟩
 simp at hd
 rcases hd with rfl | rfl | rfl | rfl | rfl <;> rfl
abbrev encSg (s : Sg) : List PD := [.v (.int .u64 s.gen), .sl 6 (s.t.map encF), .sl 5 (s.ed.map encEd), .sl 1 (s.names.map encS), .sl 1 (s.dirs.map encS)]
abbrev SgV (s : Sg) : AV := .agg ((encSg s).map .p)
theorem encEd_getD (l : List Ed) (i : Nat) (h : i < l.length) : (l.map encEd).getD i [] = encEd l[i] := by simp [List.getD, h]
theorem own_knob : ownKnob Tryz.prog.godebug = none := by kernel_rfl
theorem laid_out : laidOutB Tryz.prog = true := by kernel_rfl
theorem sh_str : shAt Tryz.prog 8 9 = some [.str] := by kernel_rfl
theorem sh_sg : shAt Tryz.prog 8 63 = some [.int .u64, .sl [.str, .flt .f64, .int .u32, .int .i64, .int .i64, .int .i64], .sl [.str, .bool, .flt .f64, .str, .sl [.int .u8]], .sl [.str], .sl [.str]] := by kernel_rfl
theorem bounds_u8 {i : Int} (h : (Lit.int .u8 i).wf = true) : 0 ≤ i ∧ i < 256 := by
 simp [Lit.wf, IntKind.min, IntKind.max, IntKind.bits, IntKind.signed] at h
 omega
theorem oct_row {ds : List PD} (h : FitAll [.int .u8] ds) : ∃ c : UInt8, ds = encO c ∧ True := by
 obtain ⟨d0, r0, rfl, f0, h0⟩ := h.cons
 obtain rfl := h0.nil
 obtain ⟨i, rfl, hi⟩ := f0.int_inv
 have hb := bounds_u8 hi
 refine ⟨UInt8.ofNat i.toNat, ?_, trivial⟩
 have : ((UInt8.ofNat i.toNat).toNat : Int) = i := by simp; omega
 rw [encO, this]
theorem fit_octs {d : PD} (h : Fit (.sl [.int .u8]) d) : ∃ s : S, d = .sl 1 (s.map encO) ∧ s.length ≤ maxLen := by
 obtain ⟨rows, rfl, hm, hr⟩ := h.sl_inv
 obtain ⟨l, rfl, _⟩ := rows_map (enc := encO) (q := fun _ => True) (fun row hrow => oct_row (hr row hrow))
 exact ⟨l, rfl, by simpa using hm⟩
theorem arg_str {d : PD} (h : Fit .str d) : ∃ s : S, AV.one (.p d) = StrV s ∧ s.length ≤ maxLen := by
 obtain ⟨s, rfl, hs⟩ := h.str_inv
 refine ⟨s.data.toList, by rw [StrV, mkS_of], ?_⟩
 rw [← mkS_size, mkS_of]; exact hs
theorem str_row {ds : List PD} (h : FitAll [.str] ds) : ∃ s : S, ds = encS s ∧ True := by
 obtain ⟨d0, r0, rfl, f0, h0⟩ := h.cons
 obtain rfl := h0.nil
 obtain ⟨s, rfl, hs⟩ := f0.str_inv
 exact ⟨s.data.toList, by rw [encS, mkS_of], trivial⟩
theorem fit_strs {d : PD} (h : Fit (.sl [.str]) d) : ∃ l : List S, d = .sl 1 (l.map encS) ∧ l.length ≤ maxLen := by
 obtain ⟨rows, rfl, hm, hr⟩ := h.sl_inv
 obtain ⟨l, rfl, _⟩ := rows_map (enc := encS) (q := fun _ => True) (fun row hrow => str_row (hr row hrow))
 exact ⟨l, rfl, by simpa using hm⟩
theorem fl_row {ds : List PD} (h : FitAll [.str, .flt .f64, .int .u32, .int .i64, .int .i64, .int .i64] ds) : ∃ f : Fl, ds = encF f ∧ True := by
 obtain ⟨d0, r0, rfl, f0, h0⟩ := h.cons
 obtain ⟨d1, r1, rfl, f1, h1⟩ := h0.cons
 obtain ⟨d2, r2, rfl, f2, h2⟩ := h1.cons
 obtain ⟨d3, r3, rfl, f3, h3⟩ := h2.cons
 obtain ⟨d4, r4, rfl, f4, h4⟩ := h3.cons
 obtain ⟨d5, r5, rfl, f5, h5⟩ := h4.cons
 obtain rfl := h5.nil
 obtain ⟨s, rfl, hs⟩ := f0.str_inv
 obtain ⟨r, rfl, _⟩ := f1.flt_inv
 obtain ⟨i2, rfl, _⟩ := f2.int_inv
 obtain ⟨i3, rfl, _⟩ := f3.int_inv
 obtain ⟨i4, rfl, _⟩ := f4.int_inv
 obtain ⟨i5, rfl, _⟩ := f5.int_inv
 exact ⟨⟨s.data.toList, r, i2, i3, i4, i5⟩, by rw [encF, mkS_of], trivial⟩
theorem fit_fls {d : PD} (h : Fit (.sl [.str, .flt .f64, .int .u32, .int .i64, .int .i64, .int .i64]) d) : ∃ l : List Fl, d = .sl 6 (l.map encF) ∧ l.length ≤ maxLen := by
 obtain ⟨rows, rfl, hm, hr⟩ := h.sl_inv
 obtain ⟨l, rfl, hl⟩ := rows_map (enc := encF) (q := fun _ => True) (fun row hrow => fl_row (hr row hrow))
 exact ⟨l, rfl, by simpa using hm⟩
theorem ravs_cons {ι : Nat → Nat} {h : Heap} {bd : Nat} {w : World} {a : AV} {al : List AV} {v : Value} {vs : List Value} (h1 : RAV ι h bd w a v) (h2 : RAVs ι h bd w al vs) : RAVs ι h bd w (a :: al) (v :: vs) := by
 refine ⟨by simp [h2.1], fun i c u hc hu => ?_⟩
 match i with
 | 0 => simp at hc hu; subst hc; subst hu; exact h1
 | i + 1 => exact h2.2 i c u (by simpa using hc) (by simpa using hu)
theorem ravs_nil {ι : Nat → Nat} {h : Heap} {bd : Nat} {w : World} : RAVs ι h bd w [] [] := ⟨rfl, fun _ _ _ e => by simp at e⟩
theorem bnd_f64 {b : Nat} (h : (Lit.float .f64 b).wf = true) : b < 18446744073709551616 := by
 simp [Lit.wf] at h
 exact h
theorem ed_row2 {ds : List PD} (h : FitAll [.str, .bool, .flt .f64, .str, .sl [.int .u8]] ds) : ∃ x : Ed, ds = encEd x ∧ x.rank < 18446744073709551616 := by
 obtain ⟨d0, r0, rfl, f0, h0⟩ := h.cons
 obtain ⟨d1, r1, rfl, f1, h1⟩ := h0.cons
 obtain ⟨d2, r2, rfl, f2, h2⟩ := h1.cons
 obtain ⟨d3, r3, rfl, f3, h3⟩ := h2.cons
 obtain ⟨d4, r4, rfl, f4, h4⟩ := h3.cons
 obtain rfl := h4.nil
 obtain ⟨s, rfl, _⟩ := f0.str_inv
 obtain ⟨g, rfl⟩ := f1.bool_inv
 obtain ⟨r, rfl, hr⟩ := f2.flt_inv
 obtain ⟨q, rfl, _⟩ := f3.str_inv
 obtain ⟨x, rfl, hx⟩ := fit_octs f4
 exact ⟨⟨s.data.toList, g, r, q.data.toList, x⟩, by rw [encEd, mkS_of, mkS_of], bnd_f64 hr⟩
theorem fit_eds2 {d : PD} (h : Fit (.sl [.str, .bool, .flt .f64, .str, .sl [.int .u8]]) d) : ∃ l : List Ed, d = .sl 5 (l.map encEd) ∧ l.length ≤ maxLen ∧ ∀ x ∈ l, x.rank < 18446744073709551616 := by
 obtain ⟨rows, rfl, hm, hr⟩ := h.sl_inv
 obtain ⟨l, rfl, hl⟩ := rows_map (enc := encEd) (q := fun x => x.rank < 18446744073709551616) (fun row hrow => ed_row2 (hr row hrow))
 exact ⟨l, rfl, by simpa using hm, hl⟩
theorem arg_sg2 {ds : List PD} (h : FitAll [.int .u64, .sl [.str, .flt .f64, .int .u32, .int .i64, .int .i64, .int .i64], .sl [.str, .bool, .flt .f64, .str, .sl [.int .u8]], .sl [.str], .sl [.str]] ds) : ∃ s : Sg, AV.agg (ds.map .p) = SgV s ∧ (∀ x ∈ s.ed, x.rank < 18446744073709551616) ∧ s.t.length ≤ maxLen ∧ s.ed.length ≤ maxLen ∧ s.names.length ≤ maxLen ∧ s.dirs.length ≤ maxLen := by
 obtain ⟨d0, r0, rfl, f0, h0⟩ := h.cons
 obtain ⟨d1, r1, rfl, f1, h1⟩ := h0.cons
 obtain ⟨d2, r2, rfl, f2, h2⟩ := h1.cons
 obtain ⟨d3, r3, rfl, f3, h3⟩ := h2.cons
 obtain ⟨d4, r4, rfl, f4, h4⟩ := h3.cons
 obtain rfl := h4.nil
 obtain ⟨g, rfl, _⟩ := f0.int_inv
 obtain ⟨t, rfl, ht⟩ := fit_fls f1
 obtain ⟨e, rfl, he, hr⟩ := fit_eds2 f2
 obtain ⟨n, rfl, hn⟩ := fit_strs f3
 obtain ⟨r, rfl, hr2⟩ := fit_strs f4
 exact ⟨⟨g, t, e, n, r⟩, rfl, hr, ht, he, hn, hr2⟩
set_option maxRecDepth 100000
end Go.Proofs.YtihgnpboabpchaaGreatDoor
