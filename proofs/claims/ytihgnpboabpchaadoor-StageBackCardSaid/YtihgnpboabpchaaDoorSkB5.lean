/-
  Part 5 of the proof of stageBack_card: steps of the machine, walks and plain laws; each holds under the conditions that it states.
-/
import Derived.Test.YtihgnpboabpchaaDoorSkB3
import Derived.Test.YtihgnpboabpchaaDoorSkB4

namespace Go.Proofs.YtihgnpboabpchaaDoor
set_option linter.unusedSimpArgs false
set_option linter.unusedVariables false
set_option linter.unnecessarySimpa false
open Go Am
structure Kn where
  name : S
  rank : Nat
  data : S
structure Vw where
  gen : Int
  l : List Kn
structure Gs where
  kind : Int
  base : Vw
  now : Vw
  writes : List S
  names : List S
  dirs : List S
structure Md where
  v : Vw
  g : List Gs
  log : List Dn
structure Ac where
  who : Int
  kind : Int
  p : S
  q : S
  rank : Nat
  data : S
structure Rp where
  e : Int
  gen : Int
  rank : Nat
  data : S
  names : List S
abbrev nmK (k : Kn) : S := k.name
abbrev nmS (s : S) : S := s
def zV : Vw := ⟨0, []⟩
def zG : Gs := ⟨0, zV, zV, [], [], []⟩
def zR : Rp := ⟨0, 0, 0, [], []⟩
def errR (e : Int) : Rp := ⟨e, 0, 0, [], []⟩
def canonR (r : Nat) : Nat := if (FloatKind.f64.format.order r r != some .eq) = true then 9221120237041090561 else r
def insN (l : List S) (p : S) : List S := setK nmS p (some p) l
def setV (v : Vw) (p : S) (k : Option Kn) : Vw := ⟨v.gen, setK nmK p k v.l⟩
abbrev getV (v : Vw) (p : S) : Option Kn := getK nmK p v.l
def putG (g : Gs) (a : Ac) : Gs × Rp :=
  if chkN a.p ≠ 0 then (g, errR 1) else if 65536 < a.data.length then (g, errR 3)
  else ({ g with now := setV g.now a.p (some ⟨a.p, canonR a.rank, a.data⟩), writes := insN g.writes a.p }, zR)
def delG (g : Gs) (a : Ac) : Gs × Rp :=
  if chkN a.p ≠ 0 then (g, errR 1) else match getV g.now a.p with
  | none => ({ g with names := insN g.names a.p }, errR 4)
  | some _ => ({ g with names := insN g.names a.p, now := setV g.now a.p none, writes := insN g.writes a.p }, zR)
def movG (g : Gs) (a : Ac) : Gs × Rp :=
  if chkN a.p ≠ 0 ∨ chkN a.q ≠ 0 then (g, errR 1) else match getV g.now a.p with
  | none => ({ g with names := insN (insN g.names a.p) a.q }, errR 4)
  | some k => if a.p = a.q then ({ g with names := insN (insN g.names a.p) a.q }, zR)
    else if (getV g.now a.q).isSome = true then ({ g with names := insN (insN g.names a.p) a.q }, errR 5)
    else ({ g with names := insN (insN g.names a.p) a.q, now := setV (setV g.now a.p none) a.q (some { k with name := a.q }), writes := insN (insN g.writes a.p) a.q }, zR)
def lookG (g : Gs) (a : Ac) : Gs × Rp :=
  if chkN a.p ≠ 0 then (g, errR 1) else
    ((if g.kind = 1 then { g with names := insN g.names a.p } else g),
     match getV g.now a.p with
     | none => errR 4
     | some k => if a.kind = 7 then ⟨0, 0, k.rank, [], []⟩ else ⟨0, 0, k.rank, k.data, []⟩)
def listG (g : Gs) (a : Ac) : Gs × Rp :=
  if a.p ≠ [] ∧ chkN a.p ≠ 0 then (g, errR 1) else
    ((if g.kind = 1 then { g with dirs := insN g.dirs a.p } else g),
     ⟨0, 0, 0, [], (g.now.l.filter fun k => decide ((withinN a.p k.name).2 = 0) && (withinN a.p k.name).1).map nmK⟩)
def mergeV (v now : Vw) (w : List S) : Vw := ⟨v.gen + 1, w.foldl (fun l p => setK nmK p (getV now p) l) v.l⟩
def comG (v : Vw) (log : List Dn) (g : Gs) : Vw × List Dn × Rp :=
  if (clashR log g.base.gen g.names g.dirs).2 ≠ 0 then (v, log, errR (clashR log g.base.gen g.names g.dirs).2)
  else if g.writes = [] then (v, log, ⟨0, v.gen, 0, [], []⟩)
  else if (addR log (v.gen + 1) g.writes).2 ≠ 0 ∨ 256 < (mergeV v g.now g.writes).l.length then (v, log, errR 6)
  else (mergeV v g.now g.writes, (addR log (v.gen + 1) g.writes).1, ⟨0, v.gen + 1, 0, [], []⟩)
def snapK (k : Int) : Bool := decide (k = 6) || (decide (k = 7) || (decide (k = 8) || decide (k = 10)))
def actG (v : Vw) (log : List Dn) (g : Gs) (a : Ac) : Vw × List Dn × Gs × Rp :=
  if a.kind = 11 then (v, log, g, zR)
  else if a.kind = 1 ∨ a.kind = 2 then (if g.kind ≠ 0 then (v, log, g, errR 10) else (v, log, ⟨a.kind, v, v, [], [], []⟩, ⟨0, v.gen, 0, [], []⟩))
  else if g.kind = 0 ∨ (g.kind = 2 ∧ snapK a.kind = false) then (v, log, g, errR 10)
  else if a.kind = 3 then (v, log, (putG g a).1, (putG g a).2)
  else if a.kind = 4 then (v, log, (delG g a).1, (delG g a).2)
  else if a.kind = 5 then (v, log, (movG g a).1, (movG g a).2)
  else if a.kind = 9 then ((comG v log g).1, (comG v log g).2.1, zG, (comG v log g).2.2)
  else if a.kind = 6 ∨ a.kind = 7 then (v, log, (lookG g a).1, (lookG g a).2)
  else if a.kind = 8 then (v, log, (listG g a).1, (listG g a).2)
  else (v, log, zG, zR)
def okA (a : Ac) : Prop := 0 ≤ a.who ∧ a.who < 64 ∧ 1 ≤ a.kind ∧ a.kind ≤ 11
def gAt (m : Md) (i : Nat) : Gs := m.g.getD i zG
def doM (m : Md) (a : Ac) : Md × Rp :=
  let r := actG m.v m.log (gAt m a.who.toNat) a
  (⟨r.1, m.g.set a.who.toNat r.2.2.1, r.2.1⟩, r.2.2.2)
def newM : Md := ⟨⟨1, []⟩, List.replicate 64 zG, []⟩
structure VOK (U : List S) (v : Vw) : Prop where
  ris : Ris nmK v.l
  mem : ∀ x ∈ v.l, x.name ∈ U ∧ chkN x.name = 0 ∧ x.data.length ≤ 65536
  gen : 1 ≤ v.gen
structure NOK (U : List S) (l : List S) : Prop where
  ris : Ris nmS l
  mem : ∀ x ∈ l, x ∈ U ∧ chkN x = 0
structure DOK (U : List S) (l : List S) : Prop where
  ris : Ris nmS l
  mem : ∀ x ∈ l, x ∈ U ∧ (x = [] ∨ chkN x = 0)
structure GOK' (U : List S) (vg : Int) (g : Gs) : Prop where
  kind : g.kind = 1 ∨ g.kind = 2
  base : VOK U g.base
  now : VOK U g.now
  gen : g.now.gen = g.base.gen
  gen2 : g.base.gen ≤ vg
  writes : NOK U g.writes
  names : NOK U g.names
  dirs : DOK U g.dirs
  snap : g.kind = 2 → g.writes = [] ∧ g.now = g.base
  wrote : ∀ p, getV g.base p ≠ getV g.now p → p ∈ g.writes
def GOK (U : List S) (vg : Int) (g : Gs) : Prop := g = zG ∨ GOK' U vg g
structure OKM (U : List S) (k : Nat) (m : Md) : Prop where
  v : VOK U m.v
  gs : m.g.length = 64
  g : ∀ g ∈ m.g, GOK U m.v.gen g
  log : checkX m.log = 0
  len : m.log.length ≤ k
  gen : m.v.gen = m.log.length + 1
  late : ∀ d ∈ m.log, d.gen ≤ m.v.gen
theorem VOK.mono {U U' : List S} (h : ∀ x ∈ U, x ∈ U') {v : Vw} (o : VOK U v) : VOK U' v := ⟨o.ris, fun x hx => ⟨h _ (o.mem x hx).1, (o.mem x hx).2⟩, o.gen⟩
theorem NOK.mono {U U' : List S} (h : ∀ x ∈ U, x ∈ U') {v : List S} (o : NOK U v) : NOK U' v := ⟨o.ris, fun x hx => ⟨h _ (o.mem x hx).1, (o.mem x hx).2⟩⟩
theorem DOK.mono {U U' : List S} (h : ∀ x ∈ U, x ∈ U') {v : List S} (o : DOK U v) : DOK U' v := ⟨o.ris, fun x hx => ⟨h _ (o.mem x hx).1, (o.mem x hx).2⟩⟩
theorem GOK.mono {U U' : List S} (h : ∀ x ∈ U, x ∈ U') {vg vg' : Int} (hv : vg ≤ vg') {g : Gs} (o : GOK U vg g) : GOK U' vg' g := by
  rcases o with o | o
  · exact .inl o
  · exact .inr ⟨o.kind, o.base.mono h, o.now.mono h, o.gen, Int.le_trans o.gen2 hv, o.writes.mono h, o.names.mono h, o.dirs.mono h, o.snap, o.wrote⟩
theorem len_sub {α : Type} [DecidableEq α] : ∀ {l U : List α}, l.Nodup → (∀ x ∈ l, x ∈ U) → l.length ≤ U.length
  | [], _, _, _ => Nat.zero_le _
  | x :: l, U, hn, hs => by
    have h1 := List.nodup_cons.1 hn
    have hx : x ∈ U := hs x List.mem_cons_self
    have ih := len_sub (U := U.erase x) h1.2 (fun y hy => (List.mem_erase_of_ne (fun e => h1.1 (by rw [← e]; exact hy))).2 (hs y (List.mem_cons_of_mem _ hy)))
    rw [List.length_erase_of_mem hx] at ih
    have := List.length_pos_of_mem hx
    rw [List.length_cons]; omega
theorem Ris.nodup {l : List S} (h : Ris nmS l) : l.Nodup := h.imp (fun {a b} hab e => by rw [cmpF_eq.2 e] at hab; omega)
theorem Ris.nodupK {l : List Kn} (h : Ris nmK l) : (l.map nmK).Nodup := by
  refine List.pairwise_map.2 (h.imp (fun {a b} hab e => ?_))
  have : cmpF (nmK a) (nmK b) = 0 := cmpF_eq.2 e
  omega
theorem VOK.len {U : List S} {v : Vw} (o : VOK U v) : v.l.length ≤ U.length := by
  have := len_sub o.ris.nodupK (U := U) (fun x hx => by obtain ⟨k, hk, rfl⟩ := List.mem_map.1 hx; exact (o.mem k hk).1)
  rwa [List.length_map] at this
theorem NOK.len {U l : List S} (o : NOK U l) : l.length ≤ U.length := len_sub o.ris.nodup (fun x hx => (o.mem x hx).1)
theorem DOK.len {U l : List S} (o : DOK U l) : l.length ≤ U.length := len_sub o.ris.nodup (fun x hx => (o.mem x hx).1)
theorem chk_ne {p : S} (h : chkN p = 0) : p ≠ [] := fun e => by subst e; exact absurd h (by decide)
theorem rise_of : ∀ {l : List S} {q : Option S}, Ris nmS l → (∀ x ∈ l, chkN x = 0) → (∀ a, q = some a → chkN a = 0 ∧ ∀ x ∈ l, cmpF a x < 0) → riseF q l = true
  | [], q, _, _, _ => by cases q <;> rfl
  | p :: ps, q, h, hc, hq => by
    obtain ⟨h1, h2⟩ := Ris.cons.1 h
    have hp := hc p List.mem_cons_self
    have ih := rise_of (q := some p) h2 (fun x hx => hc x (List.mem_cons_of_mem _ hx)) (fun a ha => by injection ha with ha; subst ha; exact ⟨hp, h1⟩)
    unfold riseF
    rw [ih, hp]
    cases q with
    | none => rfl
    | some a =>
      obtain ⟨ha, hlt⟩ := hq a rfl
      have h3 := hlt p List.mem_cons_self
      rw [cmpF_clean (chk_ne ha) (chk_ne hp)] at h3
      have e : cmpN a p = (cK a p, 0) := cmpN_ok (chkN_zero.1 ha) (chkN_zero.1 hp)
      simp only [e, decide_true, decide_eq_true h3, Bool.and_self]
theorem VOK.set {U : List S} {v : Vw} (o : VOK U v) {p : S} {k : Option Kn} (hk : ∀ x, k = some x → x.name = p ∧ x.data.length ≤ 65536) (hu : p ∈ U) (hc : chkN p = 0) : VOK U (setV v p k) :=
  ⟨o.ris.set (fun x hx => (hk x hx).1), fun x hx => by
    rcases set_mem.1 hx with e | e
    · obtain ⟨h1, h2⟩ := hk x e; rw [h1]; exact ⟨hu, hc, h2⟩
    · exact o.mem x e.1, o.gen⟩
structure WOK (U : List S) (k : Nat) (v : Vw) (log : List Dn) : Prop where
  vw : VOK U v
  chk : checkX log = 0
  len : log.length ≤ k
  gen : v.gen = log.length + 1
  late : ∀ d ∈ log, d.gen ≤ v.gen
theorem WOK.more {U : List S} {k : Nat} {v : Vw} {log : List Dn} (w : WOK U k v log) : WOK U (k + 1) v log := ⟨w.vw, w.chk, by have := w.len; omega, w.gen, w.late⟩
theorem OKM.mono {U U' : List S} {k : Nat} {m : Md} (h : ∀ x ∈ U, x ∈ U') (o : OKM U k m) : OKM U' k m := ⟨o.v.mono h, o.gs, fun g hg => (o.g g hg).mono h (Int.le_refl _), o.log, o.len, o.gen, o.late⟩
end Go.Proofs.YtihgnpboabpchaaDoor
namespace Go.Proofs.YtihgnpboabpchaaDoor
set_option linter.unusedSimpArgs false
set_option linter.unusedVariables false
set_option linter.unnecessarySimpa false
open Go Am
structure StOK (k : Nat → Int) (s : Sg) : Prop where
  gen : s.gen ≤ 1099511627776
  t : checkT s.t = 0
  ris : Ris nmE s.ed
  len : s.ed.length ≤ 256
  may : ∀ x ∈ s.ed, mayE k s.t x = true
  nris : Ris nmQ s.names
  nchk : ∀ x ∈ s.names, chkN x = 0
  nlen : s.names.length ≤ 1024
  dlen : s.dirs.length ≤ 1024
  dris : risesX (dirsX s.dirs) 1024 = true
theorem mayE_chk {k : Nat → Int} {t : List Fl} {x : Ed} (h : mayE k t x = true) : chkN x.name = 0 := by
  unfold mayE at h
  simp only [Bool.and_eq_true, decide_eq_true_eq] at h
  exact h.1
theorem mayE_data {k : Nat → Int} {t : List Fl} {x : Ed} (h : mayE k t x = true) : x.data.length ≤ 65536 := by
  unfold mayE at h
  simp only [Bool.and_eq_true, decide_eq_true_eq] at h
  obtain ⟨_, h⟩ := h
  split at h
  · simp only [Bool.and_eq_true, decide_eq_true_eq] at h
    rw [h.2.2]; simp
  · split at h
    · simpa using h
    · simp only [Bool.and_eq_true, decide_eq_true_eq] at h
      omega
theorem mayE_name {k : Nat → Int} {t : List Fl} {x : Ed} {q : S} (h : mayE k t x = true) (hq : chkN q = 0) : mayE k t { x with name := q } = true := by
  unfold mayE at h ⊢
  simp only [Bool.and_eq_true, decide_eq_true_eq] at h ⊢
  exact ⟨hq, h.2⟩
theorem mayE_gone {k : Nat → Int} {t : List Fl} {p : S} (hp : chkN p = 0) : mayE k t (goneE p) = true := by
  unfold mayE goneE
  simp [hp]
theorem mayE_new {k : Nat → Int} {t : List Fl} {p d : S} {r : Nat} (hp : chkN p = 0) (hd : d.length ≤ 65536) : mayE k t ⟨p, false, r, [], d⟩ = true := by
  unfold mayE
  simp [hp, hd]
theorem mayE_what {k : Nat → Int} {s : Sg} {p : S} (o : StOK k s) (hp : chkN p = 0) : mayE k s.t (whatS s p) = true := by
  unfold whatS
  split
  · rename_i x hx
    exact o.may x (getK_mem hx).1
  · split
    · rename_i f hf
      unfold mayE
      simp [hp, chk_ne hp, hf]
    · exact mayE_gone hp
theorem what_name {s : Sg} {p : S} : (whatS s p).name = p := by
  unfold whatS
  split
  · rename_i x hx
    exact (getK_mem hx).2
  · split <;> rfl
theorem ckE_iff {k : Nat → Int} {t : List Fl} : ∀ {l : List Ed} {q : Option S}, ckE k t q l = true ↔ (∀ x ∈ l, mayE k t x = true) ∧ Ris nmE l ∧ ∀ p, q = some p → ∀ x ∈ l, cmpF p x.name < 0
  | [], q => by unfold ckE; simp [Ris.nil]
  | x :: l, q => by
    unfold ckE
    rw [Bool.and_eq_true, Bool.and_eq_true, ckE_iff (l := l)]
    constructor
    · rintro ⟨h1, h2, h3, h4, h5⟩
      have h6 := h5 _ rfl
      refine ⟨fun y hy => ?_, Ris.cons.2 ⟨h6, h4⟩, fun p hp y hy => ?_⟩
      · rcases List.mem_cons.1 hy with rfl | hy
        · exact h1
        · exact h3 y hy
      · subst hp
        have h2 : cmpF p x.name < 0 := by simpa using h2
        rcases List.mem_cons.1 hy with rfl | hy
        · exact h2
        · exact cmpF_tr h2 (h6 y hy)
    · rintro ⟨h1, h2, h3⟩
      obtain ⟨h4, h5⟩ := Ris.cons.1 h2
      refine ⟨h1 x List.mem_cons_self, ?_, fun y hy => h1 y (List.mem_cons_of_mem _ hy), h5, fun p hp y hy => ?_⟩
      · cases q with
        | none => rfl
        | some p => exact decide_eq_true (h3 p rfl x List.mem_cons_self)
      · injection hp with hp; subst hp
        exact h4 y hy
theorem rise_ris : ∀ {l : List S} {q : Option S}, riseF q l = true → Ris nmQ l ∧ ∀ p, q = some p → ∀ x ∈ l, cmpF p x < 0
  | [], q, _ => ⟨Ris.nil, fun p _ x hx => by simp at hx⟩
  | a :: l, q, h => by
    unfold riseF at h
    rw [Bool.and_eq_true, Bool.and_eq_true, decide_eq_true_eq] at h
    obtain ⟨h1, h2, h3⟩ := h
    obtain ⟨h4, h5⟩ := rise_ris (l := l) h3
    have h6 := h5 _ rfl
    refine ⟨Ris.cons.2 ⟨h6, h4⟩, fun p hp y hy => ?_⟩
    subst hp
    rw [Bool.and_eq_true, decide_eq_true_eq, decide_eq_true_eq] at h2
    obtain ⟨c1, c2⟩ := cmpN_bad h2.1
    have e := h2.2
    rw [cmpN_ok c1 c2] at e
    have h7 : cmpF p a < 0 := by rw [cmpF_clean (chk_ne (chkN_zero.2 c1)) (chk_ne (chkN_zero.2 c2))]; exact e
    rcases List.mem_cons.1 hy with rfl | hy
    · exact h7
    · exact cmpF_tr h7 (h6 y hy)
theorem check_iff {k : Nat → Int} {s : Sg} : checkS k s = 0 ↔ StOK k s := by
  unfold checkS
  constructor
  · intro h
    split at h
    · exact absurd h (by decide)
    · rename_i hn
      split at h
      · rename_i hk
        obtain ⟨k1, k2, _⟩ := ckE_iff.1 hk
        have m : mayX s.names s.dirs = 0 := Decidable.byContradiction fun e => hn (.inr (.inr (.inl e)))
        unfold mayX at m
        split at m
        · rename_i hm
          obtain ⟨m1, m2, m3⟩ := hm
          unfold risesX at m2
          rw [Bool.and_eq_true, decide_eq_true_eq] at m2
          exact ⟨Int.not_lt.1 fun e => hn (.inl e), Decidable.byContradiction fun e => hn (.inr (.inl e)), k2, Nat.not_lt.1 fun e => hn (.inr (.inr (.inr e))), k1, (rise_ris m2.1).1, riseF_mem m2.1, m2.2, m1, m3⟩
        · exact absurd m (by decide)
      · exact absurd h (by decide)
  · intro o
    have m : mayX s.names s.dirs = 0 := by
      unfold mayX
      rw [if_pos ⟨o.dlen, by unfold risesX; rw [rise_of o.nris o.nchk (fun a e => by cases e), decide_eq_true o.nlen]; rfl, o.dris⟩]
    rw [if_neg (by rw [o.t, m]; have := o.gen; have := o.len; omega), if_pos (ckE_iff.2 ⟨o.may, o.ris, fun p e => by cases e⟩)]
theorem StOK.read {k : Nat → Int} {s : Sg} {e : Int} {p : S} (o : StOK k s) (hp : chkN p = 0) : StOK k (readS s e p).1 := by
  unfold readS
  split
  · exact o
  · rename_i h1
    split
    · exact o
    · rename_i h2
      refine ⟨o.gen, o.t, o.ris, o.len, o.may, o.nris.set (fun x hx => by injection hx with hx; exact hx.symm), fun x hx => ?_, ?_, o.dlen, o.dris⟩
      · rcases set_mem.1 hx with e | e
        · injection e with e; rw [← e]; exact hp
        · exact o.nchk x e.1
      · have := set_len (nm := nmQ) (p := p) (k := some p) (l := s.names)
        have h3 := o.nlen
        show (setK nmQ p (some p) s.names).length ≤ 1024
        omega
theorem edit_len {s : Sg} {e : Int} {x : Ed} (h : Ris nmE s.ed) : (setK nmE x.name (some x) s.ed).length = s.ed.length + if (getK nmE x.name s.ed).isSome = true then 0 else 1 := by
  have := congrArg List.length (splitK (nm := nmE) (p := x.name) h)
  conv => rhs; rw [this]
  unfold setK
  cases getK nmE x.name s.ed <;> simp <;> omega
theorem StOK.edit {k : Nat → Int} {s : Sg} {e : Int} {x : Ed} (o : StOK k s) (hx : mayE k s.t x = true) : StOK k (editS s e x).1 := by
  unfold editS
  split
  · exact o
  · split
    · rename_i h2
      refine ⟨o.gen, o.t, o.ris.set (fun y hy => by injection hy with hy; rw [← hy]), ?_, fun y hy => ?_, o.nris, o.nchk, o.nlen, o.dlen, o.dris⟩
      · show (setK nmE x.name (some x) s.ed).length ≤ 256
        have := edit_len (e := 0) (x := x) o.ris
        have h3 := o.len
        rw [this]
        split
        · omega
        · rename_i h4
          rcases h2 with h2 | h2
          · exact absurd h2 h4
          · omega
      · rcases set_mem.1 hy with e | e
        · injection e with e; rw [← e]; exact hx
        · exact o.may y e.1
    · exact o
theorem read_err {s : Sg} {p : S} : (readS s 0 p).2 = 0 ∨ (readS s 0 p).2 = 6 := by
  unfold readS
  split
  · exact .inl rfl
  · split
    · exact .inr rfl
    · exact .inl rfl
theorem read_same {s : Sg} {e : Int} {p : S} : (readS s e p).1.ed = s.ed ∧ (readS s e p).1.t = s.t ∧ (readS s e p).1.gen = s.gen ∧ (readS s e p).1.dirs = s.dirs := by
  unfold readS
  split
  · exact ⟨rfl, rfl, rfl, rfl⟩
  · split <;> exact ⟨rfl, rfl, rfl, rfl⟩
theorem read_stuck {s : Sg} {e : Int} {p : S} (h : e ≠ 0) : readS s e p = (s, e) := by unfold readS; rw [if_pos (.inr h)]
theorem read_has {s : Sg} {e : Int} {p : S} (h : (getK nmQ p s.names).isSome = true) : readS s e p = (s, e) := by unfold readS; rw [if_pos (.inl h)]
theorem read_keep {s : Sg} {e : Int} {p q : S} (o : Ris nmQ s.names) (h : (getK nmQ q s.names).isSome = true) : (getK nmQ q (readS s e p).1.names).isSome = true := by
  unfold readS
  split
  · exact h
  · split
    · exact h
    · show (getK nmQ q (setK nmQ p (some p) s.names)).isSome = true
      rw [get_set o (fun x hx => by injection hx with hx; exact hx.symm)]
      split
      · rfl
      · exact h
theorem read_in {s : Sg} {p : S} (o : Ris nmQ s.names) (h : (readS s 0 p).2 = 0) : (getK nmQ p (readS s 0 p).1.names).isSome = true := by
  unfold readS at h ⊢
  split at h
  · rename_i h1
    rw [if_pos h1]
    rcases h1 with h1 | h1
    · exact h1
    · exact absurd rfl h1
  · rename_i h1
    rw [if_neg h1]
    split at h
    · exact absurd h (show ¬ (6 : Int) = 0 by decide)
    · rename_i h2
      rw [if_neg h2]
      show (getK nmQ p (setK nmQ p (some p) s.names)).isSome = true
      rw [get_set o (fun x hx => by injection hx with hx; exact hx.symm), if_pos rfl]; rfl
theorem edit_err {s : Sg} {x : Ed} : (editS s 0 x).2 = 0 ∨ (editS s 0 x).2 = 6 := by
  unfold editS; rw [if_neg (by simp)]; split
  · exact .inl rfl
  · exact .inr rfl
theorem edit_same {s : Sg} {e : Int} {x : Ed} : (editS s e x).1.t = s.t ∧ (editS s e x).1.names = s.names ∧ (editS s e x).1.gen = s.gen ∧ (editS s e x).1.dirs = s.dirs := by
  unfold editS; split
  · exact ⟨rfl, rfl, rfl, rfl⟩
  · split <;> exact ⟨rfl, rfl, rfl, rfl⟩
theorem edit_stuck {s : Sg} {e : Int} {x : Ed} (h : e ≠ 0) : editS s e x = (s, e) := by unfold editS; rw [if_pos h]
theorem edit_zero {s : Sg} {x : Ed} (h : (editS s 0 x).2 = 0) : (editS s 0 x).1 = { s with ed := setK nmE x.name (some x) s.ed } := by
  unfold editS at h ⊢
  rw [if_neg (by simp)] at h ⊢
  split at h
  · rename_i h1; rw [if_pos h1]
  · exact absurd h (show ¬ (6 : Int) = 0 by decide)
theorem edit_has {s : Sg} {x : Ed} (h : (getK nmE x.name s.ed).isSome = true) : (editS s 0 x).2 = 0 := by
  unfold editS; rw [if_neg (by simp), if_pos (.inl h)]
theorem what_edit {s : Sg} {x : Ed} {q : S} (o : Ris nmE s.ed) (h : (editS s 0 x).2 = 0) : whatS (editS s 0 x).1 q = if q = x.name then x else whatS s q := by
  rw [edit_zero h]
  unfold whatS
  simp only
  rw [get_set o (fun y hy => by injection hy with hy; rw [← hy])]
  by_cases e : q = x.name
  · rw [if_pos e, if_pos e]
  · rw [if_neg e, if_neg e]
theorem what_of {s s' : Sg} {p : S} (e : s'.ed = s.ed) (e2 : s'.t = s.t) : whatS s' p = whatS s p := by unfold whatS; rw [e, e2]
theorem start_one {k : Nat → Int} {s : Sg} {p : S} : startS k s [p] = 0 ↔ StOK k s ∧ chkN p = 0 := by
  unfold startS
  simp only [List.foldl_cons, List.foldl_nil]
  rw [← check_iff (k := k)]
  constructor
  · intro h
    split at h
    · rename_i h1; exact ⟨h1, h⟩
    · rename_i h1; exact absurd h h1
  · rintro ⟨h1, h2⟩; rw [if_pos h1]; exact h2
theorem start_two {k : Nat → Int} {s : Sg} {p q : S} : startS k s [p, q] = 0 ↔ StOK k s ∧ chkN p = 0 ∧ chkN q = 0 := by
  unfold startS
  simp only [List.foldl_cons, List.foldl_nil]
  rw [← check_iff (k := k)]
  constructor
  · intro h
    by_cases c : checkS k s = 0
    · rw [if_pos c] at h
      by_cases c2 : chkN p = 0
      · rw [if_pos c2] at h; exact ⟨c, c2, h⟩
      · rw [if_neg c2] at h; exact absurd h c2
    · rw [if_neg c, if_neg c] at h; exact absurd h c
  · rintro ⟨h1, h2, h3⟩; rw [if_pos h1, if_pos h2]; exact h3
end Go.Proofs.YtihgnpboabpchaaDoor
namespace Go.Proofs.YtihgnpboabpchaaDoor
set_option linter.unusedSimpArgs false
set_option linter.unusedVariables false
set_option linter.unnecessarySimpa false
open Go Am
set_option maxRecDepth 100000
theorem StOK.tlen {s : Sg} (o : StOK keyR s) : s.t.length ≤ 256 := (checkT_zero.1 o.t).1
theorem StOK.sz {s : Sg} (o : StOK keyR s) : SzS s := ⟨by have := o.tlen; omega, by have := o.len; omega, by have := o.nlen; omega, by have := o.dlen; omega, fun x hx => by have := mayE_data (o.may x hx); omega⟩
theorem eFind0_ok (p : S) (h : Heap) (b : Nat) :
    ACalls Tryd.prog 32 [EdsV [], StrV p, .one (.clo (.func 33) [] [])] h b 0 (fun r h' => r = .tup [IntV (0 : Nat), BoolV false] ∧ h' = h) :=
  bsed_ok [] (mkS p) 33 (fun k => cmpF k.name p) 0 (by simp) body_33 (fun x hx h b => by cases hx) (Nat.le_refl _) (fun j hj hk => by simp at hj) (fun j hj hk => by simp at hj) _ (by simp) h b
theorem seditBad_ok (e : Int) (x : Ed) (he : e ≠ 0) (h : Heap) (b W : Nat) (hW : W < b) (hw : h W = some ⟨0, seC e⟩) :
    ACalls Tryd.prog 25 [.one (.ptr W 0 0), EdV x] h b 0 (fun r h' => r = .tup [] ∧ h' = h) := by
  refine ACalls.enter Tryd.func25 rfl (by simp [Tryd.ntmps25]) (fun ι w hn H => ?_)
  have hWb : ¬ W = b := by omega
  have nbW : ¬ b = W := by omega
  have c' : (e = 0) = False := eq_false he
  refine Rk ?_
  refine AWP.seqRegD [] [] [] mixed (by kernel_rfl) (by kernel_rfl) (fun K hK => .inl ?_) (by kernel_rfl); simp -implicitDefEqProofs only [go_sem, ↓reduceIte, Nat.reduceEqDiff, Nat.reduceAdd, Nat.reduceLT, Nat.reduceLeDiff, reduceCtorEq, Int.toNat_natCast, hw, hWb, nbW]
  refine CallD.use (eFind0_ok x.name _ _) body_32 ?_
  rintro _ _ ⟨rfl, rfl⟩
  refine ⟨Sub.refl _, ?_⟩
  refine Ev ?_
  refine hK _ _ _ ?_; clear hK K
  refine AWP.block ?_
  refine Rkf (jn3 @hw @hWb @c') ?_
  refine Bt ?_
  refine AWP.skip ?_
  exact Ends.pure hn H Ou (r0 := .tup []) (by rw [show Tryd.f25.results.toList = [] from rfl]; rfl) (frz_tup0 _ _) ⟨rfl, rfl⟩
theorem SR.out {h h' : Heap} {b W B N D : Nat} {s : Sg} {e : Int} {r0 r : AV} (k : SR h b W B N D s e r0 r h') : ∀ id, id < b → id ≠ W → id ≠ B → id ≠ N → id ≠ D → h' id = h id := k.2.2
theorem swhat2_ok {s : Sg} {e : Int} {p : S} (o : StOK keyR s) (hp : chkN p = 0) {h : Heap} {W B N D : Nat} (hw : SW h W B N D s e) (b : Nat) (hW : W < b) (hBb : B < b) :
    ACalls Tryd.prog 19 [.one (.ptr W 0 0), StrV p] h b 0 (fun r h' => r = EdV (whatS s p) ∧ h' = h) :=
  swhat_ok s e p o.sz.t o.ris o.sz.ed o.sz.data (fun x hx => mayE_chk (o.may x hx)) (.inr hp) h b W B N D hW hBb hw
theorem sedit2_ok {s : Sg} {x : Ed} (e : Int) (o : StOK keyR s) (hp : chkN x.name = 0) {h : Heap} {W B N D : Nat} (hw : SW h W B N D s e) (b : Nat) (hW : W < b) (hBb : B < b) (hN : N < b) (hD : D < b) :
    ACalls Tryd.prog 25 [.one (.ptr W 0 0), EdV x] h b 0 (SR h b W B N D (editS s e x).1 (editS s e x).2 (.tup [])) :=
  sedit_ok s e x o.ris o.sz.ed (fun x hx => mayE_chk (o.may x hx)) (.inr hp) h b W B N D hW hBb hN hD hw
theorem smove_ok {s : Sg} {p q : S} (o : StOK keyR s) (hp : chkN p = 0) (hq : chkN q = 0) {h : Heap} {W B N D : Nat} (hw : SW h W B N D s 0) (b : Nat) (hW : W < b) (hBb : B < b) (hN : N < b) (hD : D < b) :
    ACalls Tryd.prog 21 [.one (.ptr W 0 0), StrV p, StrV q] h b 0 (SR h b W B N D (moveS s p q).2.1 (moveS s p q).2.2 (IntV (moveS s p q).1)) := by
  refine ACalls.enter Tryd.func21 rfl (by simp [Tryd.ntmps21]) (fun ι w hn H => ?_)
  have nWb : ¬ W = b := by omega
  have nBb : ¬ B = b := by omega
  have nNb : ¬ N = b := by omega
  have nDb : ¬ D = b := by omega
  obtain ⟨x, hx⟩ : ∃ x, whatS s p = x := ⟨_, rfl⟩
  have hxm : mayE keyR s.t x = true := by rw [← hx]; exact mayE_what o hp
  have fin : ∀ (tt : Nat → AV) (hh : Heap) (n : Nat) (m : Sg) (e v : Int), tt 6 = IntV v → (v, m, e) = moveS s p q → SW hh W B N D m e → (∀ id, id < b → id ≠ W → id ≠ B → id ≠ N → id ≠ D → hh id = h id) → Am.Ends Tryd.prog ⟨Tryd.f21.ntmps, b, ι, h, w, x0⟩ Tryd.f21 0 (SR h b W B N D (moveS s p q).2.1 (moveS s p q).2.2 (IntV (moveS s p q).1)) ⟨tt, hh, n⟩ := by
    intro tt hh n m e v e6 q1 q2 q3
    rw [← q1]
    exact Ends.SR rfl H hW hBb hN hD q2 q3 (by rw [show Tryd.f21.results.toList = [.tmp 6] from rfl]; exact Ecf @e6) (.v _)
  have hsw : ∀ (c : List Cell), SW (upd h b ⟨0, c⟩) W B N D s 0 := fun c => hw.of (upd_ne _ _ _ _ nWb) (upd_ne _ _ _ _ nBb) (upd_ne _ _ _ _ nNb) (upd_ne _ _ _ _ nDb)
  have hout : ∀ (c : List Cell) (id : Nat), id < b → id ≠ W → id ≠ B → id ≠ N → id ≠ D → (upd h b ⟨0, c⟩) id = h id := fun c id hid _ _ _ _ => upd_ne _ _ _ _ (Nat.ne_of_lt hid)
  refine Rk ?_
  refine Rg (fun E K hE hK => ?_)
  refine Us (swhat2_ok o hp hw _ hW hBb) body_19 ?_
  refine Evf @hx ?_
  refine hK _ _ _ ?_; clear hE hK K E
  refine AWP.seq ?_
  refine AWP.block ?_
  cases hg : x.gone
  case true =>
    refine Rkf @hg ?_
    refine Bt ?_
    refine Rk ?_
    refine AWP.ret ?_
    refine Ev ?_
    exact fin _ _ _ s 0 4 (by exact Er) (by unfold moveS; rw [hx, if_pos hg]) (hsw _) (hout _)
  refine Rkf @hg ?_
  refine Bf ?_
  by_cases c : p = q
  · have c' : (p = q) = True := eq_true c
    refine Rkf (jn2 @mkS_list @c') ?_
    refine Bt ?_
    refine Rk ?_
    refine AWP.ret ?_
    refine Ev ?_
    exact fin _ _ _ s 0 0 (by exact Er) (by unfold moveS; rw [hx, if_neg (by rw [hg]; simp), if_pos c]) (hsw _) (hout _)
  have c' : (p = q) = False := eq_false c
  obtain ⟨y, hy⟩ : ∃ y, whatS s q = y := ⟨_, rfl⟩
  refine Rkf (jn2 @mkS_list @c') ?_
  refine Bf ?_
  refine Rg (fun E K hE hK => ?_)
  refine Us (swhat2_ok o hq (hsw _) (b + 1) (show W < b + 1 by omega) (show B < b + 1 by omega)) body_19 ?_
  refine Evf @hy ?_
  refine hK _ _ _ ?_; clear hE hK K E
  cases hg2 : y.gone
  case false =>
    refine Evf @hg2 ?_
    refine Bt ?_
    refine Rk ?_
    refine AWP.ret ?_
    refine Ev ?_
    exact fin _ _ _ s 0 5 (by exact Er) (by unfold moveS; rw [hx, if_neg (by rw [hg]; simp), if_neg c, hy, if_pos hg2]) (hsw _) (hout _)
  refine Evf @hg2 ?_
  refine Bf ?_
  refine AWP.skip ?_
  refine Ev ?_
  have hxe : ({ x with name := q } : Ed) = ⟨q, false, x.rank, x.of, x.data⟩ := by rw [← hg]
  have hmv : moveS s p q = (0, editS (editS s 0 ⟨q, false, x.rank, x.of, x.data⟩).1 (editS s 0 ⟨q, false, x.rank, x.of, x.data⟩).2 (goneE p)) := by unfold moveS; rw [hx, hxe, if_neg (by rw [hg]; simp), if_neg c, hy, if_neg (by rw [hg2]; simp)]
  refine Rk ?_
  have hx1 : mayE keyR s.t ⟨q, false, x.rank, x.of, x.data⟩ = true := by rw [← hxe]; exact mayE_name hxm hq
  have o1 : StOK keyR (editS s 0 ⟨q, false, x.rank, x.of, x.data⟩).1 := o.edit hx1
  refine Rg (fun E K hE hK => ?_)
  refine CallR.use (sedit2_ok (x := ⟨q, false, x.rank, x.of, x.data⟩) 0 o hq (hsw _) (b + 1) (show W < b + 1 by omega) (show B < b + 1 by omega) (show N < b + 1 by omega) (show D < b + 1 by omega)) body_25 ?_
  rintro _ h2 ⟨rfl, hw2, ho2⟩
  refine Ev ?_
  refine hK _ _ _ ?_; clear hE hK K E
  refine Rg (fun E K hE hK => ?_)
  refine CallR.use ((sedit2_ok (x := goneE p) (editS s 0 ⟨q, false, x.rank, x.of, x.data⟩).2 o1 hp hw2 (b + 1) (show W < b + 1 by omega) (show B < b + 1 by omega) (show N < b + 1 by omega) (show D < b + 1 by omega)).argNil ⟨lessV.refl _, ⟨.inl rfl, .inl rfl, .inl rfl, .inl rfl, .nil 1, trivial⟩, trivial⟩) body_25 ?_
  rintro _ h3 ⟨rfl, hw3, ho3⟩
  refine Ev ?_
  refine hK _ _ _ ?_; clear hE hK K E
  refine Rk ?_
  refine AWP.ret ?_
  refine Ev ?_
  refine fin _ _ _ _ _ 0 (by exact Er) hmv.symm hw3 (fun id hid n1 n2 n3 n4 => ?_)
  have q1 : id < b + 1 := Nat.lt_succ_of_lt hid
  exact (ho3 id q1 n1 n2 n3 n4).trans ((ho2 id q1 n1 n2 n3 n4).trans (hout _ id hid n1 n2 n3 n4))
end Go.Proofs.YtihgnpboabpchaaDoor
namespace Go.Proofs.YtihgnpboabpchaaDoor
set_option linter.unusedSimpArgs false
set_option linter.unusedVariables false
set_option linter.unnecessarySimpa false
open Go Am
set_option maxRecDepth 100000
theorem sstartL_ok {s : Sg} {names : List S} (z : SzS s) (hnl : names.length ≤ 1000) (hs : startS keyR s names = 0) {h : Heap} {nb : Nat} (b : Nat) (hnb : nb < b) (hb : h nb = some (rowB 0 (names.map encS) [])) :
    ACalls Tryd.prog 17 [SgV s, .one (.win nb 0 0 names.length names.length)] h b 4 (fun r h' => r = .one (.ptr b 0 0) ∧ SW h' b (b + 1) (b + 2) (b + 3) s 0 ∧ ∀ id, id < b → id ≠ nb → h' id = h id) := by
  have hlm : (names.map encS).length = names.length := List.length_map _
  have vw := view_rowT (h := h) (D := fun i => decide (i = nb)) (id := nb) (ver := 0) (sz := 1) (m := names.length) (j := 0) (off := 0) (cap := names.length) (by simp) hb (okEs_str names) (by rw [hlm]; omega) rfl
  rw [List.drop_zero, ← hlm, List.take_length, hlm] at vw
  refine ((sstart_ok s names z hnl hs (delP h fun i => decide (i = nb)) b).seal _ (.cons (.same _) (.cons (.one vw) .nil))).mono fun r h' ⟨k1, k2, k3⟩ => ⟨k1, k2, fun id hid n => (k3 id hid).trans ?_⟩
  unfold delP
  rw [if_neg (by simp [n])]
theorem sstartBadL_ok {s : Sg} {names : List S} (z : SzS s) (hnl : names.length ≤ 1000) (hs : startS keyR s names ≠ 0) {h : Heap} {nb : Nat} (b : Nat) (hnb : nb < b) (hb : h nb = some (rowB 0 (names.map encS) [])) :
    ACalls Tryd.prog 17 [SgV s, .one (.win nb 0 0 names.length names.length)] h b 1 (fun r h' => r = .one (.ptr b 0 0) ∧ h' b = some ⟨0, seC (startS keyR s names)⟩ ∧ ∀ id, id < b → id ≠ nb → h' id = h id) := by
  have hlm : (names.map encS).length = names.length := List.length_map _
  have vw := view_rowT (h := h) (D := fun i => decide (i = nb)) (id := nb) (ver := 0) (sz := 1) (m := names.length) (j := 0) (off := 0) (cap := names.length) (by simp) hb (okEs_str names) (by rw [hlm]; omega) rfl
  rw [List.drop_zero, ← hlm, List.take_length, hlm] at vw
  refine ((sstartBad_ok s names z hnl hs (delP h fun i => decide (i = nb)) b).seal _ (.cons (.same _) (.cons (.one vw) .nil))).mono fun r h' ⟨k1, k2⟩ => ⟨k1, by rw [k2]; exact upd_same _ _ _, fun id hid n => by
    rw [k2, upd_ne _ _ _ _ (Nat.ne_of_lt hid)]
    unfold delP
    rw [if_neg (by simp [n])]⟩
def endC (h : Heap) (nb W : Nat) (m : Sg) (e : Int) : Prop := ACalls Tryd.prog 20 [.one (.ptr W 0 0)] h nb 0 (fun r h' => r = .tup [SgV m, IntV e] ∧ ∀ id, id < W → h' id = h id)
theorem endC_bad {C5 : List Cell} {e : Int} {h : Heap} {W : Nat} (nb : Nat) (he : e ≠ 0) (hl : C5.length = 5) (hW : W < nb) (hw : h W = some ⟨0, C5 ++ [.p (.v (.int .i64 e))]⟩) : endC h nb W zSg e :=
  (sendBad_ok C5 e he hl h nb W hW hw).mono fun r h' ⟨k1, k2⟩ => ⟨k1, fun id _ => by rw [k2]⟩
theorem endC_ok {s : Sg} {h : Heap} {W : Nat} (nb : Nat) (hW : W + 3 < nb) (hw : SW h W (W + 1) (W + 2) (W + 3) s 0) : endC h nb W s 0 :=
  (sendOk_ok s h nb W (W + 1) (W + 2) (W + 3) (by omega) (by omega) (by omega) (by omega) hw).mono fun r h' ⟨k1, k2⟩ => ⟨k1, fun id hid => k2 id (by omega) (by omega) (by omega) (by omega)⟩
theorem SW.err {h : Heap} {W B N D : Nat} {s : Sg} {e : Int} (hw : SW h W B N D s e) : ∃ C5, C5.length = 5 ∧ h W = some ⟨0, C5 ++ [.p (.v (.int .i64 e))]⟩ := by
  obtain ⟨ev, ec, nv, nc, dv, dc, w1, _⟩ := hw.w
  exact ⟨[_, _, _, _, _], rfl, w1⟩
theorem endC_any {s : Sg} {e : Int} {h : Heap} {W : Nat} (nb : Nat) (hW : W + 3 < nb) (hw : SW h W (W + 1) (W + 2) (W + 3) s e) : endC h nb W (endS (s, e)).1 (endS (s, e)).2 := by
  unfold endS
  by_cases c : e = 0
  · subst c; rw [if_neg (by simp)]; exact endC_ok nb hW hw
  · rw [if_pos c]
    obtain ⟨C5, h1, h2⟩ := hw.err
    exact endC_bad nb c h1 (by omega) h2
theorem subA2 {H : Heap} {x y vx : Nat} {cx c1 : List Cell} (hx : H x = some ⟨vx, cx⟩) (hne : ¬ x = y) : Am.Sub (ers (ers H x) y) (upd H x ⟨vx, c1⟩) := by
  have s := (sub_ers (ers H x) y).trans (sub_ers H x)
  exact s.at (x := ⟨vx, c1⟩) (by rw [ers_lit, if_neg hne, ers_lit, if_pos rfl, hx]; rfl)
theorem subB2 {H : Heap} {x y vx vy : Nat} {cx cy c1 c2 : List Cell} (hx : H x = some ⟨vx, cx⟩) (hy : H y = some ⟨vy, cy⟩) (hne : ¬ x = y) : Am.Sub (ers (ers H x) y) (upd (upd H x ⟨vx, c1⟩) y ⟨vy, c2⟩) :=
  (subA2 (c1 := c1) hx hne).at (x := ⟨vy, c2⟩) (by rw [ers_lit, if_pos rfl, ers_lit, if_neg (fun e => hne e.symm), hy]; rfl)
def zEd : Ed := ⟨[], false, 0, [], []⟩
def edC (x : Ed) (d : PD) : List Cell := [.p (.v (.string (mkS x.name))), .p (.v (.bool x.gone)), .p (.v (.float .f64 x.rank)), .p (.v (.string (mkS x.of))), .p d]
def edD (x : Ed) (d : PD) : Prop := d = .sl 1 (x.data.map encO) ∨ (d = .v (.slice none 0 0) ∧ x.data = [])
theorem frz_edC {x : Ed} {d : PD} (k : edD x d) {h : Heap} {b : Nat} : frzV h b (.agg (edC x d)) (EdV x) := by
  rcases k with rfl | ⟨rfl, e⟩
  · exact frz_psS (encEd x)
  · have := frz_ed0 (h := h) (b := b) x.name x.gone x.rank x.of
    rwa [show (⟨x.name, x.gone, x.rank, x.of, []⟩ : Ed) = x by rw [← e]] at this
def seeM (s : Sg) (p : S) (x : Ed) (h : Heap) (b : Nat) (st : St) : Prop :=
  st.t 1 = StrV p ∧ st.t 2 = .one (.ptr b 0 0) ∧ st.t 4 = .one (.ptr (b + 1) 0 0) ∧ st.t 5 = .one (.ptr (b + 2) 0 0) ∧ st.t 7 = .one (.ptr (b + 4) 0 0) ∧ (∃ v, st.h b = some ⟨0, (encSg v).map .p⟩) ∧
    (∃ d, st.h (b + 1) = some ⟨0, edC x d⟩ ∧ edD x d) ∧ st.h (b + 2) = some ⟨0, [.p (.v (.int .u64 0)), .p (.v (.slice none 0 0)), .p (.v (.slice none 0 0)), .p (.v (.slice none 0 0)), .p (.v (.slice none 0 0))]⟩ ∧ ∀ id, id < b → st.h id = h id
theorem seeM.of {s : Sg} {p : S} {x : Ed} {h : Heap} {b : Nat} {t t' : Nat → AV} {hh hh' : Heap} {n n' : Nat} (k : seeM s p x h b ⟨t, hh, n⟩) (e1 : t' 1 = t 1) (e2 : t' 2 = t 2) (e4 : t' 4 = t 4) (e5 : t' 5 = t 5) (e7 : t' 7 = t 7) (eh : ∀ id, id < b + 4 → hh' id = hh id) : seeM s p x h b ⟨t', hh', n'⟩ := by
  obtain ⟨k1, k2, k4, k5, k7, ⟨v, hb⟩, ⟨d, hd, hd2⟩, h2, ho⟩ := k
  simp only at k1 k2 k4 k5 k7 hb hd h2 ho
  exact ⟨e1.trans k1, e2.trans k2, e4.trans k4, e5.trans k5, e7.trans k7, ⟨v, (eh b (by omega)).trans hb⟩, ⟨d, (eh (b + 1) (by omega)).trans hd, hd2⟩, (eh (b + 2) (by omega)).trans h2, fun id hid => (eh id (by omega)).trans (ho id hid)⟩
theorem ssee_ok (s : Sg) (p : S) (z : SzS s) (h : Heap) (b : Nat) : ACalls Tryd.prog 7 [SgV s, StrV p] h b 0 (fun r h' => r = .tup [EdV (seeS keyR s p).1, SgV (seeS keyR s p).2.1, IntV (seeS keyR s p).2.2] ∧ h' = h) := by
  refine ACalls.enter Tryd.func7 rfl (by simp [Tryd.ntmps7]) (fun ι w hn H => ?_)
  have hlow := H.lowCells
  refine Rk ?_
  refine Am.AWP.mid (fun st => seeM s p zEd h b st ∧ ((startS keyR s [p] ≠ 0 ∧ st.n = 5 ∧ st.h (b + 4) = some ⟨0, seC (startS keyR s [p])⟩) ∨ (startS keyR s [p] = 0 ∧ st.n = 8 ∧ SW st.h (b + 4) (b + 5) (b + 6) (b + 7) s 0))) ?_ ?_
  · by_cases hs : startS keyR s [p] = 0
    · refine Ra (fun E K hE hK => ?_)
      refine CallR.use (sstartL_ok z (by simp) hs (b + 4) (show b + 3 < b + 4 by omega) (upd_same _ _ _)) body_17 ?_
      rintro _ h2 ⟨rfl, k1, k2⟩
      refine hK _ _ _ ?_; clear hE hK K E
      refine ⟨⟨by exact Er, by exact Er, by exact Er, by exact Er, by exact Er, ⟨s, (k2 b (by omega) (by omega)).trans (by exact Er)⟩, ⟨.v (.slice none 0 0), (k2 (b + 1) (by omega) (by omega)).trans (by exact Er), .inr ⟨rfl, rfl⟩⟩, (k2 (b + 2) (by omega) (by omega)).trans (by exact Er), fun id hid => by
        have hid' : id < b := hid
        have q0 : ¬ id = b := by omega
        have q1 : ¬ id = b + 1 := by omega
        have q2 : ¬ id = b + 2 := by omega
        have q3 : ¬ id = b + 3 := by omega
        exact (k2 id (show id < b + 4 by omega) (by omega)).trans (by exact Erf (jn4 @q0 @q1 @q2 @q3))⟩, .inr ⟨hs, rfl, k1⟩⟩
    · refine Ra (fun E K hE hK => ?_)
      refine CallR.use (sstartBadL_ok z (by simp) hs (b + 4) (show b + 3 < b + 4 by omega) (upd_same _ _ _)) body_17 ?_
      rintro _ h2 ⟨rfl, k1, k2⟩
      refine hK _ _ _ ?_; clear hE hK K E
      refine ⟨⟨by exact Er, by exact Er, by exact Er, by exact Er, by exact Er, ⟨s, (k2 b (by omega) (by omega)).trans (by exact Er)⟩, ⟨.v (.slice none 0 0), (k2 (b + 1) (by omega) (by omega)).trans (by exact Er), .inr ⟨rfl, rfl⟩⟩, (k2 (b + 2) (by omega) (by omega)).trans (by exact Er), fun id hid => by
        have hid' : id < b := hid
        have q0 : ¬ id = b := by omega
        have q1 : ¬ id = b + 1 := by omega
        have q2 : ¬ id = b + 2 := by omega
        have q3 : ¬ id = b + 3 := by omega
        exact (k2 id (show id < b + 4 by omega) (by omega)).trans (by exact Erf (jn4 @q0 @q1 @q2 @q3))⟩, .inl ⟨hs, rfl, k1⟩⟩
  rintro ⟨t, h1, n⟩ ⟨hM, hc⟩
  refine Am.AWP.mid (fun st => seeM s p zEd h b st ∧ ((startS keyR s [p] ≠ 0 ∧ st.n = 5 ∧ st.h (b + 4) = some ⟨0, seC (startS keyR s [p])⟩) ∨ (startS keyR s [p] = 0 ∧ st.n = 8 ∧ SW st.h (b + 4) (b + 5) (b + 6) (b + 7) (readS s 0 p).1 (readS s 0 p).2))) ?_ ?_
  · have hM0 := hM
    obtain ⟨e1, _, _, _, e7, _⟩ := hM0
    simp only at e1 e7
    rcases hc with ⟨hs, hn1, hw⟩ | ⟨hs, hn1, hw⟩
    · simp only at hn1 hw; subst hn1
      have c' : (startS keyR s [p] = 0) = False := eq_false hs
      refine Rkf (jn3 @e7 @hw @c') ?_
      refine Bf ?_
      exact AWP.skip ⟨hM.of (by exact Er) (by exact Er) (by exact Er) (by exact Er) (by exact Er) (fun _ _ => rfl), .inl ⟨hs, rfl, hw⟩⟩
    · simp only at hn1 hw; subst hn1
      obtain ⟨o, hp⟩ := start_one.1 hs
      have hw0 := hw
      obtain ⟨ev, ec, nv, nc, dv, dc, w1, _⟩ := hw0.w
      refine Rkf (jn2 @e7 @w1) ?_
      refine Bt ?_
      refine Raf (jn2 @e7 @e1) (fun E K hE hK => ?_)
      refine CallR.use (sread_ok s 0 p o.nris o.sz.nm (fun x hx => .inr (o.nchk x hx)) (.inr hp) _ (b + 8) (b + 4) (b + 5) (b + 6) (b + 7) (by omega) (by omega) (by omega) (by omega) hw) body_18 ?_
      rintro _ h2 ⟨rfl, k1, k2⟩
      refine hK _ _ _ ?_; clear hE hK K E
      exact ⟨hM.of (by exact Er) (by exact Er) (by exact Er) (by exact Er) (by exact Er) (fun id hid => k2 id (by omega) (by omega) (by omega) (by omega) (by omega)), .inr ⟨hs, rfl, k1⟩⟩
  clear hM hc t h1 n
  rintro ⟨t, h1, n⟩ ⟨hM, hc⟩
  refine Am.AWP.mid (fun st => seeM s p (seeS keyR s p).1 h b st ∧ endC st.h (b + st.n) (b + 4) (seeS keyR s p).2.1 (seeS keyR s p).2.2) ?_ ?_
  · have hM0 := hM
    obtain ⟨e1, e2, e4, e5, e7, ⟨v, hb⟩, ⟨d, hd, hd2⟩, hb2, ho⟩ := hM0
    simp only at e1 e2 e4 e5 e7 hb hd hb2 ho
    rcases hc with ⟨hs, hn1, hw⟩ | ⟨hs, hn1, hw⟩
    · simp only at hn1 hw; subst hn1
      have hv : seeS keyR s p = (zEd, zSg, startS keyR s [p]) := by unfold seeS; rw [if_pos hs]; rfl
      rw [hv]
      have c' : (startS keyR s [p] = 0) = False := eq_false hs
      refine Rkf (jn3 @e7 @hw @c') ?_
      refine Bf ?_
      exact AWP.skip ⟨hM.of (by exact Er) (by exact Er) (by exact Er) (by exact Er) (by exact Er) (fun _ _ => rfl), endC_bad (C5 := [.p (.v (.int .u64 0)), .p (.sl 6 []), .p (.sl 5 []), .p (.sl 1 []), .p (.sl 1 [])]) (b + 5) hs rfl (by omega) hw⟩
    · simp only at hn1 hw; subst hn1
      obtain ⟨o, hp⟩ := start_one.1 hs
      have hw0 := hw
      obtain ⟨ev, ec, nv, nc, dv, dc, w1, _⟩ := hw0.w
      by_cases hr : (readS s 0 p).2 = 0
      · have hv : seeS keyR s p = (whatS (readS s 0 p).1 p, (readS s 0 p).1, 0) := by unfold seeS; rw [if_neg (by rw [hs]; simp)]; simp only; rw [if_neg (by rw [hr]; simp)]
        rw [hv]
        have c' : ((readS s 0 p).2 = 0) = True := eq_true hr
        have o1 : StOK keyR (readS s 0 p).1 := o.read hp
        refine Rkf (jn3 @e7 @w1 @c') ?_
        refine Bt ?_
        rw [hr] at hw
        refine AWP.reg (by kernel_rfl) (fun E K hE hK => ?_); simp -implicitDefEqProofs only [go_sem, ↓reduceIte, Nat.reduceEqDiff, Nat.reduceAdd, Nat.reduceLT, Nat.reduceLeDiff, reduceCtorEq, Int.toNat_natCast, e7, e1, e4, hd, edC]
        refine CallR.use (swhat2_ok o1 hp hw (b + 8) (by omega) (by omega)) body_19 ?_
        rintro _ _ ⟨rfl, rfl⟩
        simp -implicitDefEqProofs only [go_sem, ↓reduceIte, Nat.reduceEqDiff, Nat.reduceAdd, Nat.reduceLT, Nat.reduceLeDiff, reduceCtorEq, Int.toNat_natCast, e4, hd, edC, EdV, encEd]
        refine hK _ _ _ ?_; clear hE hK K E
        refine ⟨⟨by exact Erf @e1, by exact Erf @e2, by exact Erf @e4, by exact Erf @e5, by exact Erf @e7, ⟨v, by exact Erf @hb⟩, ⟨_, by exact Er, .inl rfl⟩, by exact Erf @hb2, (Ouf @ho)⟩, ?_⟩
        exact endC_ok (b + 8) (by omega) (hw.of (by exact Er) (by exact Er) (by exact Er) (by exact Er))
      · have hv : seeS keyR s p = (zEd, zSg, (readS s 0 p).2) := by unfold seeS; rw [if_neg (by rw [hs]; simp)]; simp only; rw [if_pos hr]; rfl
        rw [hv]
        have c' : ((readS s 0 p).2 = 0) = False := eq_false hr
        refine Rkf (jn3 @e7 @w1 @c') ?_
        refine Bf ?_
        obtain ⟨C5, q1, q2⟩ := hw.err
        exact AWP.skip ⟨hM.of (by exact Er) (by exact Er) (by exact Er) (by exact Er) (by exact Er) (fun _ _ => rfl), endC_bad (b + 8) hr q1 (by omega) q2⟩
  clear hM hc t h1 n
  rintro ⟨t, h1, n⟩ ⟨hM, hc⟩
  obtain ⟨⟨x, m, e⟩, hv⟩ : ∃ v, seeS keyR s p = v := ⟨_, rfl⟩
  rw [hv] at hM hc ⊢
  simp only at hM hc ⊢
  obtain ⟨e1, e2, e4, e5, e7, ⟨v, hb⟩, ⟨d, hd, hd2⟩, hb2, ho⟩ := hM
  simp only at e1 e2 e4 e5 e7 hb hd hb2 ho
  refine Rgf (jn2 @e7 @hb) (fun E K hE hK => ?_)
  refine CallR.use hc body_20 ?_
  rintro _ h2 ⟨rfl, k2⟩
  have hb' := (k2 b (by omega)).trans hb
  have hd' := (k2 (b + 1) (by omega)).trans hd
  have hb2' := (k2 (b + 2) (by omega)).trans hb2
  simp -implicitDefEqProofs only [go_sem, ↓reduceIte, Nat.reduceEqDiff, Nat.reduceAdd, Nat.reduceLT, Nat.reduceLeDiff, reduceCtorEq, Int.toNat_natCast, e2, hb', SgV, encSg]
  refine hK _ _ _ ?_; clear hE hK K E
  have hb3 : ∀ c, (upd h2 b c) (b + 1) = some ⟨0, edC x d⟩ := fun c => (upd_ne _ _ _ _ (Nat.succ_ne_self b)).trans hd'
  have hb4 : ∀ c, (upd h2 b c) (b + 2) = h2 (b + 2) := fun c => upd_ne _ _ _ _ (by omega)
  refine AWP.seqRegD [34] [] [b + 1, b + 2] mixed (by kernel_rfl) (by kernel_rfl) (fun K hK => .inl ?_) (by kernel_rfl); simp -implicitDefEqProofs only [go_sem, ↓reduceIte, Nat.reduceEqDiff, Nat.reduceAdd, Nat.reduceLT, Nat.reduceLeDiff, reduceCtorEq, Int.toNat_natCast, e2, e4, e5, hd', hb2', edC]
  have okd : ∀ hh : Heap, okC hh (.p d) = true := fun hh => by rcases hd2 with rfl | ⟨rfl, _⟩ <;> rfl
  refine ⟨(sub_ers _ _).trans (sub_ers _ _), by rcases hd2 with rfl | ⟨rfl, _⟩ <;> rfl, subA2 (by (first | (simp -implicitDefEqProofs only [go_sem, ↓reduceIte, Nat.reduceEqDiff, Nat.reduceAdd, Nat.reduceLT, Nat.reduceLeDiff, reduceCtorEq, Int.toNat_natCast, hd', edC]; first | done | rfl) | rfl)) (by omega), subB2 (by (first | (simp -implicitDefEqProofs only [go_sem, ↓reduceIte, Nat.reduceEqDiff, Nat.reduceAdd, Nat.reduceLT, Nat.reduceLeDiff, reduceCtorEq, Int.toNat_natCast, hd', edC]; first | done | rfl) | rfl)) (by exact Erf @hb2') (by omega), ?_⟩
  refine hK _ _ _ ?_; clear hK K
  refine AWP.ret ?_
  exact Ends.pure hn H (fun id hid => (upd_ne _ _ _ _ (Nat.ne_of_lt (Nat.lt_add_right 2 hid))).trans ((upd_ne _ _ _ _ (Nat.ne_of_lt (Nat.lt_add_right 1 hid))).trans ((upd_ne _ _ _ _ (Nat.ne_of_lt hid)).trans ((k2 id (Nat.lt_add_right 4 hid)).trans (ho id hid))))) (r0 := .tup [.agg (edC x d), SgV m, IntV e]) (by rw [show Tryd.f7.results.toList = [.cell 4 35, .cell 5 29, .tmp 6] from rfl]; (first | (simp -implicitDefEqProofs only [go_sem, ↓reduceIte, Nat.reduceEqDiff, Nat.reduceAdd, Nat.reduceLT, Nat.reduceLeDiff, reduceCtorEq, Int.toNat_natCast, e4, e5, edC]; first | done | rfl) | rfl)) (frz_tup3 (frz_edC hd2) (frz_psS _) (.v _)) ⟨rfl, rfl⟩
end Go.Proofs.YtihgnpboabpchaaDoor
namespace Go.Proofs.YtihgnpboabpchaaDoor
set_option linter.unusedSimpArgs false
set_option linter.unusedVariables false
set_option linter.unnecessarySimpa false
open Go Am
abbrev readT (s : Sg) (p q : S) : Sg × Int := readS (readS s 0 p).1 (readS s 0 p).2 q
structure RdOK (k : Nat → Int) (s s1 : Sg) (p q : S) : Prop where
  ok : StOK k s1
  ed : s1.ed = s.ed
  t : s1.t = s.t
  hp : (getK nmQ p s1.names).isSome = true
  hq : (getK nmQ q s1.names).isSome = true
theorem readT_ok {k : Nat → Int} {s : Sg} {p q : S} (o : StOK k s) (hp : chkN p = 0) (hq : chkN q = 0) (h : (readT s p q).2 = 0) : RdOK k s (readT s p q).1 p q := by
  have h1 : (readS s 0 p).2 = 0 := Decidable.byContradiction fun e => by
    unfold readT at h
    rw [read_stuck e] at h
    exact e h
  have o1 := o.read (e := 0) hp
  obtain ⟨a1, a2, _, _⟩ := read_same (s := s) (e := 0) (p := p)
  have i1 := read_in o.nris h1
  unfold readT at h ⊢
  rw [h1] at h ⊢
  obtain ⟨b1, b2, _, _⟩ := read_same (s := (readS s 0 p).1) (e := 0) (p := q)
  exact ⟨o1.read hq, b1.trans a1, b2.trans a2, read_keep o1.nris i1, read_in o1.nris h⟩
theorem readT_has {s : Sg} {p q : S} (hp : (getK nmQ p s.names).isSome = true) (hq : (getK nmQ q s.names).isSome = true) : readT s p q = (s, 0) := by
  unfold readT
  rw [read_has hp]
  exact read_has hq
theorem mov_inv {k : Nat → Int} {s m : Sg} {p q : S} {how : Int} (h : movS k s p q = (how, m, 0)) : StOK k s ∧ chkN p = 0 ∧ chkN q = 0 ∧ RdOK k s (readT s p q).1 p q ∧ moveS (readT s p q).1 p q = (how, m, 0) := by
  unfold movS at h
  split at h
  · rename_i h1
    injection h with _ h; injection h with _ h
    exact absurd h h1
  · rename_i h1
    obtain ⟨o, hp, hq⟩ := start_two.1 (Decidable.not_not.1 h1)
    simp only at h
    split at h
    · rename_i h2
      injection h with _ h; injection h with _ h
      exact absurd h h2
    · rename_i h2
      have h2' : (readT s p q).2 = 0 := Decidable.not_not.1 h2
      split at h
      · rename_i h3
        injection h with _ h; injection h with _ h
        exact absurd h h3
      · rename_i h3
        injection h with e1 h; injection h with e2 _
        refine ⟨o, hp, hq, readT_ok o hp hq h2', ?_⟩
        exact Prod.ext e1 (Prod.ext e2 (Decidable.not_not.1 h3))
theorem mov_has {k : Nat → Int} {s : Sg} {p q : S} (o : StOK k s) (hp : chkN p = 0) (hq : chkN q = 0) (hp2 : (getK nmQ p s.names).isSome = true) (hq2 : (getK nmQ q s.names).isSome = true) :
    movS k s p q = if (moveS s p q).2.2 ≠ 0 then (0, zSg, (moveS s p q).2.2) else ((moveS s p q).1, (moveS s p q).2.1, 0) := by
  unfold movS
  rw [if_neg (by rw [Decidable.not_not]; exact start_two.2 ⟨o, hp, hq⟩)]
  have := readT_has (p := p) (q := q) hp2 hq2
  unfold readT at this
  simp only
  rw [this, if_neg (by simp)]
theorem move_inv {k : Nat → Int} {s m : Sg} {p q : S} {how : Int} (o : StOK k s) (hp : chkN p = 0) (hq : chkN q = 0) (h : moveS s p q = (how, m, 0)) :
    ((how = 4 ∧ m = s ∧ (whatS s p).gone = true) ∨ (how = 0 ∧ m = s ∧ p = q ∧ (whatS s p).gone = false) ∨ (how = 5 ∧ m = s ∧ p ≠ q) ∨
      (how = 0 ∧ p ≠ q ∧ (whatS s p).gone = false ∧ (whatS s q).gone = true ∧ (editS s 0 { whatS s p with name := q }).2 = 0 ∧ (editS (editS s 0 { whatS s p with name := q }).1 0 (goneE p)).2 = 0 ∧ m = (editS (editS s 0 { whatS s p with name := q }).1 0 (goneE p)).1)) := by
  unfold moveS at h
  split at h
  · rename_i h1; injection h with e1 h; injection h with e2 _; exact .inl ⟨e1.symm, e2.symm, h1⟩
  · rename_i h1
    have h1' : (whatS s p).gone = false := by simpa using h1
    split at h
    · rename_i h2; injection h with e1 h; injection h with e2 _; exact .inr (.inl ⟨e1.symm, e2.symm, h2, h1'⟩)
    · rename_i h2
      split at h
      · injection h with e1 h; injection h with e2 _; exact .inr (.inr (.inl ⟨e1.symm, e2.symm, h2⟩))
      · rename_i h3
        injection h with e1 h
        have h4 : (editS s 0 { whatS s p with name := q }).2 = 0 := Decidable.byContradiction fun e => by
          rw [edit_stuck e] at h
          injection h with _ h
          exact e h
        rw [h4] at h
        exact .inr (.inr (.inr ⟨e1.symm, h2, h1', by simpa using h3, h4, by rw [h], by rw [h]⟩))
theorem StOK.move {k : Nat → Int} {s : Sg} {p q : S} (o : StOK k s) (hp : chkN p = 0) (hq : chkN q = 0) : StOK k (moveS s p q).2.1 := by
  unfold moveS
  split
  · exact o
  · split
    · exact o
    · split
      · exact o
      · have o1 : StOK k (editS s 0 { whatS s p with name := q }).1 := o.edit (mayE_name (mayE_what o hp) hq)
        exact o1.edit (mayE_gone hp)
theorem mov_ok {k : Nat → Int} {s m : Sg} {p q : S} {how : Int} (h : movS k s p q = (how, m, 0)) : StOK k m := by
  obtain ⟨_, hp, hq, r, e⟩ := mov_inv h
  have := r.ok.move (p := p) (q := q) hp hq
  rw [e] at this
  exact this
theorem see_inv {k : Nat → Int} {s m : Sg} {p : S} {x : Ed} (h : seeS k s p = (x, m, 0)) : StOK k s ∧ chkN p = 0 ∧ (readS s 0 p).2 = 0 ∧ x = whatS s p ∧ m = (readS s 0 p).1 := by
  unfold seeS at h
  split at h
  · rename_i h1
    injection h with _ h; injection h with _ h
    exact absurd h h1
  · rename_i h1
    obtain ⟨o, hp⟩ := start_one.1 (Decidable.not_not.1 h1)
    simp only at h
    split at h
    · rename_i h2
      injection h with _ h; injection h with _ h
      exact absurd h h2
    · rename_i h2
      injection h with e1 h; injection h with e2 _
      obtain ⟨a, b, _, _⟩ := read_same (s := s) (e := 0) (p := p)
      exact ⟨o, hp, Decidable.not_not.1 h2, by rw [← e1, what_of a b], e2.symm⟩
theorem see_has {k : Nat → Int} {s : Sg} {p : S} (o : StOK k s) (hp : chkN p = 0) (h : (getK nmQ p s.names).isSome = true) : seeS k s p = (whatS s p, s, 0) := by
  unfold seeS
  rw [if_neg (by rw [Decidable.not_not]; exact start_one.2 ⟨o, hp⟩)]
  simp only
  rw [read_has h, if_neg (by simp)]
theorem see_err {k : Nat → Int} {s : Sg} {p : S} (o : StOK k s) (hp : chkN p = 0) : (seeS k s p).2.2 = 6 ∨ ((seeS k s p).2.2 = 0 ∧ (seeS k s p).1 = whatS s p) := by
  unfold seeS
  rw [if_neg (by rw [Decidable.not_not]; exact start_one.2 ⟨o, hp⟩)]
  simp only
  obtain ⟨a, b, _, _⟩ := read_same (s := s) (e := 0) (p := p)
  rcases read_err (s := s) (p := p) with e | e
  · rw [if_neg (by rw [e]; simp)]
    exact .inr ⟨rfl, what_of a b⟩
  · rw [if_pos (by rw [e]; decide)]
    exact .inl e
theorem back_law {k : Nat → Int} {s s1 m : Sg} {p q : S} {x : Ed} (h1 : seeS k s p = (x, s1, 0)) (h2 : movS k s p q = (0, m, 0)) :
    (movS k m q p).2.2 = 6 ∨ ((movS k m q p).2.2 = 0 ∧ (movS k m q p).1 = 0 ∧ (seeS k (movS k m q p).2.1 p).2.2 = 0 ∧ (seeS k (movS k m q p).2.1 p).1 = x) := by
  obtain ⟨o, hp, _, hx, _⟩ := see_inv h1
  obtain ⟨_, _, hq, r, e⟩ := mov_inv h2
  have om := mov_ok h2
  obtain ⟨r0, rd⟩ : ∃ r0, (readT s p q).1 = r0 := ⟨_, rfl⟩
  rw [rd] at r e
  have hx' : x = whatS r0 p := by rw [hx, what_of r.ed r.t]
  have hxn : x.name = p := by rw [hx']; exact what_name
  rcases move_inv r.ok hp hq e with ⟨e1, _⟩ | ⟨_, e2, e3, e4⟩ | ⟨e1, _⟩ | ⟨_, hne, g1, g2, z1, z2, em⟩
  · exact absurd e1 (by decide)
  · subst e3
    rw [e2]
    have hm : moveS r0 p p = (0, r0, 0) := by unfold moveS; rw [if_neg (by rw [e4]; simp), if_pos rfl]
    rw [mov_has r.ok hp hp r.hp r.hp, hm, if_neg (by simp)]
    rw [see_has r.ok hp r.hp]
    exact .inr ⟨rfl, rfl, rfl, hx'.symm⟩
  · exact absurd e1 (by decide)
  · rw [← hx'] at z1 z2 em
    have o1 : StOK k (editS r0 0 { x with name := q }).1 := r.ok.edit (mayE_name (by rw [hx']; exact mayE_what r.ok hp) hq)
    have hmn : m.names = r0.names := by rw [em]; exact edit_same.2.1.trans edit_same.2.1
    have hmp : (getK nmQ p m.names).isSome = true := by rw [hmn]; exact r.hp
    have hmq : (getK nmQ q m.names).isSome = true := by rw [hmn]; exact r.hq
    have wq : whatS m q = { x with name := q } := by
      rw [em, what_edit o1.ris z2, if_neg (fun e => hne e.symm), what_edit r.ok.ris z1, if_pos rfl]
    have wp : whatS m p = goneE p := by
      rw [em, what_edit o1.ris z2]; exact if_pos rfl
    rw [mov_has om hq hp hmq hmp]
    have hmv : moveS m q p = (0, editS (editS m 0 x).1 (editS m 0 x).2 (goneE q)) := by
      have hxe : ({ whatS m q with name := p } : Ed) = x := by rw [wq]; cases x; simp only at hxn ⊢; rw [hxn]
      unfold moveS
      rw [if_neg (by rw [wq]; simp only; rw [hx', g1]; simp), if_neg (fun e => hne e.symm), if_neg (by rw [wp]; simp [goneE]), hxe]
    rw [hmv]
    simp only
    rcases edit_err (s := m) (x := x) with y1 | y1
    · rw [y1]
      rcases edit_err (s := (editS m 0 x).1) (x := goneE q) with y2 | y2
      · rw [y2, if_neg (by simp)]
        refine .inr ⟨rfl, rfl, ?_⟩
        have o2 : StOK k (editS m 0 x).1 := om.edit (by
          have := mayE_name (k := k) (t := m.t) (x := x) (q := p) (by rw [hx', show m.t = r0.t by rw [em]; exact edit_same.1.trans edit_same.1]; exact mayE_what r.ok hp) hp
          rwa [show ({ x with name := p } : Ed) = x by cases x; simp only at hxn ⊢; rw [hxn]] at this)
        have o3 : StOK k (editS (editS m 0 x).1 0 (goneE q)).1 := o2.edit (mayE_gone hq)
        have hn3 : (editS (editS m 0 x).1 0 (goneE q)).1.names = m.names := edit_same.2.1.trans edit_same.2.1
        rw [see_has o3 hp (by rw [hn3]; exact hmp)]
        refine ⟨rfl, ?_⟩
        rw [what_edit o2.ris y2, if_neg (show ¬ p = (goneE q).name from hne), what_edit om.ris y1, if_pos hxn.symm]
      · rw [y2, if_pos (by decide)]
        exact .inl rfl
    · rw [edit_stuck (by rw [y1]; decide), y1, if_pos (by decide)]
      exact .inl rfl
theorem put_inv {k : Nat → Int} {s m : Sg} {p d : S} {r : Nat} (h : putS k s p r d = (m, 0)) : StOK k s ∧ chkN p = 0 ∧ d.length ≤ 65536 ∧ (editS s 0 ⟨p, false, canonE r, [], d⟩).2 = 0 ∧ m = (editS s 0 ⟨p, false, canonE r, [], d⟩).1 := by
  unfold putS at h
  split at h
  · rename_i h1
    injection h with _ h
    exact absurd h h1
  · rename_i h1
    obtain ⟨o, hp⟩ := start_one.1 (Decidable.not_not.1 h1)
    split at h
    · injection h with _ h
      exact absurd h (by decide)
    · rename_i h2
      unfold endS at h
      split at h
      · rename_i h3
        injection h with _ h
        exact absurd h h3
      · rename_i h3
        injection h with h _
        exact ⟨o, hp, by omega, Decidable.not_not.1 h3, h.symm⟩
theorem put_ok {k : Nat → Int} {s m : Sg} {p d : S} {r : Nat} (h : putS k s p r d = (m, 0)) : StOK k m := by
  obtain ⟨o, hp, hd, _, e⟩ := put_inv h
  rw [e]
  exact o.edit (mayE_new hp hd)
theorem put_eq {k : Nat → Int} {s : Sg} {p d : S} {r : Nat} (o : StOK k s) (hp : chkN p = 0) (hd : d.length ≤ 65536) : putS k s p r d = endS (editS s 0 ⟨p, false, canonE r, [], d⟩) := by
  unfold putS
  rw [if_neg (by rw [Decidable.not_not]; exact start_one.2 ⟨o, hp⟩), if_neg (by omega)]
theorem twice_law {k : Nat → Int} {s a : Sg} {p d1 d2 : S} {r1 r2 : Nat} (h : putS k s p r1 d1 = (a, 0)) (hd : d2.length ≤ 65536) :
    (putS k a p r2 d2).2 = 0 ∧ (putS k a p r2 d2).1.ed.length = a.ed.length ∧ ((seeS k (putS k a p r2 d2).1 p).2.2 = 6 ∨ ((seeS k (putS k a p r2 d2).1 p).2.2 = 0 ∧ (seeS k (putS k a p r2 d2).1 p).1 = ⟨p, false, canonE r2, [], d2⟩)) := by
  obtain ⟨o, hp, _, z, e⟩ := put_inv h
  have oa := put_ok h
  have hg : (getK nmE p a.ed).isSome = true := by
    rw [e, edit_zero z]
    show (getK nmE p (setK nmE p _ s.ed)).isSome = true
    rw [get_set o.ris (fun y hy => by injection hy with hy; rw [← hy]), if_pos rfl]; rfl
  have z2 : (editS a 0 ⟨p, false, canonE r2, [], d2⟩).2 = 0 := edit_has hg
  have e2 : putS k a p r2 d2 = ((editS a 0 ⟨p, false, canonE r2, [], d2⟩).1, 0) := by
    rw [put_eq oa hp hd]; unfold endS; rw [if_neg (by rw [z2]; simp)]
  have ob := put_ok e2
  rw [e2]
  refine ⟨rfl, ?_, ?_⟩
  · rw [edit_zero z2]
    show (setK nmE p _ a.ed).length = _
    rw [edit_len (e := 0) (x := ⟨p, false, canonE r2, [], d2⟩) oa.ris, if_pos hg]; rfl
  · rcases see_err ob hp with e3 | ⟨e3, e4⟩
    · exact .inl e3
    · refine .inr ⟨e3, e4.trans ?_⟩
      rw [what_edit oa.ris z2, if_pos rfl]
def writS (k : Nat → Int) (s : Sg) : List S × Int := if checkS k s ≠ 0 then ([], checkS k s) else (s.ed.map nmE, 0)
end Go.Proofs.YtihgnpboabpchaaDoor
namespace Go.Proofs.YtihgnpboabpchaaDoor
set_option linter.unusedSimpArgs false
set_option linter.unusedVariables false
set_option linter.unnecessarySimpa false
open Go Am
set_option maxRecDepth 100000
theorem movS_bad {s : Sg} {p q : S} (hs : startS keyR s [p, q] ≠ 0) : movS keyR s p q = (0, zSg, startS keyR s [p, q]) := by unfold movS; rw [if_pos hs]
theorem movS_rd {s : Sg} {p q : S} (hs : startS keyR s [p, q] = 0) (hr : (readT s p q).2 ≠ 0) : movS keyR s p q = (0, zSg, (readT s p q).2) := by
  unfold movS
  rw [if_neg (by rw [hs]; simp)]
  simp only
  rw [if_pos hr]
theorem movS_mv {s : Sg} {p q : S} (hs : startS keyR s [p, q] = 0) (hr : (readT s p q).2 = 0) : movS keyR s p q = if (moveS (readT s p q).1 p q).2.2 ≠ 0 then (0, zSg, (moveS (readT s p q).1 p q).2.2) else ((moveS (readT s p q).1 p q).1, (moveS (readT s p q).1 p q).2.1, 0) := by
  unfold movS
  rw [if_neg (by rw [hs]; simp)]
  simp only
  rw [if_neg (by unfold readT at hr; rw [hr]; simp)]
def movM (p q : S) (v : Int) (h : Heap) (b : Nat) (st : St) : Prop :=
  st.t 1 = StrV p ∧ st.t 2 = StrV q ∧ st.t 3 = .one (.ptr b 0 0) ∧ st.t 6 = IntV v ∧ st.t 7 = .one (.ptr (b + 1) 0 0) ∧ st.t 9 = .one (.ptr (b + 3) 0 0) ∧ (∃ v, st.h b = some ⟨0, (encSg v).map .p⟩) ∧
    st.h (b + 1) = some ⟨0, [.p (.v (.int .u64 0)), .p (.v (.slice none 0 0)), .p (.v (.slice none 0 0)), .p (.v (.slice none 0 0)), .p (.v (.slice none 0 0))]⟩ ∧ ∀ id, id < b → st.h id = h id
theorem movM.of {p q : S} {v v' : Int} {h : Heap} {b : Nat} {t t' : Nat → AV} {hh hh' : Heap} {n n' : Nat} (k : movM p q v h b ⟨t, hh, n⟩) (e1 : t' 1 = t 1) (e2 : t' 2 = t 2) (e3 : t' 3 = t 3) (e6 : t' 6 = IntV v') (e7 : t' 7 = t 7) (e9 : t' 9 = t 9) (eh : ∀ id, id < b + 3 → hh' id = hh id) : movM p q v' h b ⟨t', hh', n'⟩ := by
  obtain ⟨k1, k2, k3, k6, k7, k9, ⟨v, hb⟩, h2, ho⟩ := k
  simp only at k1 k2 k3 k6 k7 k9 hb h2 ho
  exact ⟨e1.trans k1, e2.trans k2, e3.trans k3, e6, e7.trans k7, e9.trans k9, ⟨v, (eh b (by omega)).trans hb⟩, (eh (b + 1) (by omega)).trans h2, fun id hid => (eh id (by omega)).trans (ho id hid)⟩
theorem smov_ok (s : Sg) (p q : S) (z : SzS s) (h : Heap) (b : Nat) : ACalls Tryd.prog 8 [SgV s, StrV p, StrV q] h b 0 (fun r h' => r = .tup [IntV (movS keyR s p q).1, SgV (movS keyR s p q).2.1, IntV (movS keyR s p q).2.2] ∧ h' = h) := by
  refine ACalls.enter Tryd.func8 rfl (by simp [Tryd.ntmps8]) (fun ι w hn H => ?_)
  have hlow := H.lowCells
  refine Rk ?_
  refine Am.AWP.mid (fun st => movM p q 0 h b st ∧ ((startS keyR s [p, q] ≠ 0 ∧ st.n = 4 ∧ st.h (b + 3) = some ⟨0, seC (startS keyR s [p, q])⟩) ∨ (startS keyR s [p, q] = 0 ∧ st.n = 7 ∧ SW st.h (b + 3) (b + 4) (b + 5) (b + 6) s 0))) ?_ ?_
  · by_cases hs : startS keyR s [p, q] = 0
    · refine Ra (fun E K hE hK => ?_)
      refine ⟨by decide, ?_⟩
      refine CallR.use (sstartL_ok z (by simp) hs (b + 3) (show b + 2 < b + 3 by omega) (upd_same _ _ _)) body_17 ?_
      rintro _ h2 ⟨rfl, k1, k2⟩
      refine hK _ _ _ ?_; clear hE hK K E
      refine ⟨⟨by exact Er, by exact Er, by exact Er, by exact Er, by exact Er, by exact Er, ⟨s, (k2 b (by omega) (by omega)).trans (by exact Er)⟩, (k2 (b + 1) (by omega) (by omega)).trans (by exact Er), fun id hid => ?_⟩, .inr ⟨hs, rfl, k1⟩⟩
      have hid' : id < b := hid
      have q0 : ¬ id = b := by omega
      have q1 : ¬ id = b + 1 := by omega
      have q2 : ¬ id = b + 2 := by omega
      exact (k2 id (show id < b + 3 by omega) (by omega)).trans (by exact Erf (jn3 @q0 @q1 @q2))
    · refine Ra (fun E K hE hK => ?_)
      refine ⟨by decide, ?_⟩
      refine CallR.use (sstartBadL_ok z (by simp) hs (b + 3) (show b + 2 < b + 3 by omega) (upd_same _ _ _)) body_17 ?_
      rintro _ h2 ⟨rfl, k1, k2⟩
      refine hK _ _ _ ?_; clear hE hK K E
      refine ⟨⟨by exact Er, by exact Er, by exact Er, by exact Er, by exact Er, by exact Er, ⟨s, (k2 b (by omega) (by omega)).trans (by exact Er)⟩, (k2 (b + 1) (by omega) (by omega)).trans (by exact Er), fun id hid => ?_⟩, .inl ⟨hs, rfl, k1⟩⟩
      have hid' : id < b := hid
      have q0 : ¬ id = b := by omega
      have q1 : ¬ id = b + 1 := by omega
      have q2 : ¬ id = b + 2 := by omega
      exact (k2 id (show id < b + 3 by omega) (by omega)).trans (by exact Erf (jn3 @q0 @q1 @q2))
  rintro ⟨t, h1, n⟩ ⟨hM, hc⟩
  refine Am.AWP.mid (fun st => movM p q 0 h b st ∧ ((startS keyR s [p, q] ≠ 0 ∧ st.n = 4 ∧ st.h (b + 3) = some ⟨0, seC (startS keyR s [p, q])⟩) ∨ (startS keyR s [p, q] = 0 ∧ st.n = 7 ∧ SW st.h (b + 3) (b + 4) (b + 5) (b + 6) (readS s 0 p).1 (readS s 0 p).2))) ?_ ?_
  · have hM0 := hM
    obtain ⟨e1, e2, _, e6, _, e9, _⟩ := hM0
    simp only at e1 e2 e6 e9
    rcases hc with ⟨hs, hn1, hw⟩ | ⟨hs, hn1, hw⟩
    · simp only at hn1 hw; subst hn1
      refine Raf (jn2 @e9 @e1) (fun E K hE hK => ?_)
      refine Us (sreadBad_ok _ p hs _ (b + 4) (b + 3) (by omega) hw) body_18 ?_
      refine hK _ _ _ ?_; clear hE hK K E
      exact ⟨hM.of (by exact Er) (by exact Er) (by exact Er) (by exact Erf @e6) (by exact Er) (by exact Er) (fun _ _ => rfl), .inl ⟨hs, rfl, hw⟩⟩
    · simp only at hn1 hw; subst hn1
      obtain ⟨o, hp, hq⟩ := start_two.1 hs
      refine Raf (jn2 @e9 @e1) (fun E K hE hK => ?_)
      refine CallR.use (sread_ok s 0 p o.nris o.sz.nm (fun x hx => .inr (o.nchk x hx)) (.inr hp) _ (b + 7) (b + 3) (b + 4) (b + 5) (b + 6) (by omega) (by omega) (by omega) (by omega) hw) body_18 ?_
      rintro _ h2 ⟨rfl, k1, k2⟩
      refine hK _ _ _ ?_; clear hE hK K E
      exact ⟨hM.of (by exact Er) (by exact Er) (by exact Er) (by exact Erf @e6) (by exact Er) (by exact Er) (fun id hid => k2 id (by omega) (by omega) (by omega) (by omega) (by omega)), .inr ⟨hs, rfl, k1⟩⟩
  clear hM hc t h1 n
  rintro ⟨t, h1, n⟩ ⟨hM, hc⟩
  refine Am.AWP.mid (fun st => movM p q 0 h b st ∧ ((startS keyR s [p, q] ≠ 0 ∧ st.n = 4 ∧ st.h (b + 3) = some ⟨0, seC (startS keyR s [p, q])⟩) ∨ (startS keyR s [p, q] = 0 ∧ st.n = 7 ∧ SW st.h (b + 3) (b + 4) (b + 5) (b + 6) (readT s p q).1 (readT s p q).2))) ?_ ?_
  · have hM0 := hM
    obtain ⟨e1, e2, _, e6, _, e9, _⟩ := hM0
    simp only at e1 e2 e6 e9
    rcases hc with ⟨hs, hn1, hw⟩ | ⟨hs, hn1, hw⟩
    · simp only at hn1 hw; subst hn1
      refine Raf (jn2 @e9 @e2) (fun E K hE hK => ?_)
      refine Us (sreadBad_ok _ q hs _ (b + 4) (b + 3) (by omega) hw) body_18 ?_
      refine hK _ _ _ ?_; clear hE hK K E
      exact ⟨hM.of (by exact Er) (by exact Er) (by exact Er) (by exact Erf @e6) (by exact Er) (by exact Er) (fun _ _ => rfl), .inl ⟨hs, rfl, hw⟩⟩
    · simp only at hn1 hw; subst hn1
      obtain ⟨o, hp, hq⟩ := start_two.1 hs
      have o1 := o.read (e := 0) hp
      refine Raf (jn2 @e9 @e2) (fun E K hE hK => ?_)
      refine CallR.use (sread_ok (readS s 0 p).1 (readS s 0 p).2 q o1.nris o1.sz.nm (fun x hx => .inr (o1.nchk x hx)) (.inr hq) _ (b + 7) (b + 3) (b + 4) (b + 5) (b + 6) (by omega) (by omega) (by omega) (by omega) hw) body_18 ?_
      rintro _ h2 ⟨rfl, k1, k2⟩
      refine hK _ _ _ ?_; clear hE hK K E
      exact ⟨hM.of (by exact Er) (by exact Er) (by exact Er) (by exact Erf @e6) (by exact Er) (by exact Er) (fun id hid => k2 id (by omega) (by omega) (by omega) (by omega) (by omega)), .inr ⟨hs, rfl, k1⟩⟩
  clear hM hc t h1 n
  rintro ⟨t, h1, n⟩ ⟨hM, hc⟩
  refine Am.AWP.mid (fun st => ∃ v, movM p q v h b st ∧ endC st.h (b + st.n) (b + 3) (movS keyR s p q).2.1 (movS keyR s p q).2.2 ∧ (if (movS keyR s p q).2.2 = 0 then v else 0) = (movS keyR s p q).1) ?_ ?_
  · have hM0 := hM
    obtain ⟨e1, e2, e3, e6, e7, e9, ⟨v, hb⟩, hb2, ho⟩ := hM0
    simp only at e1 e2 e3 e6 e7 e9 hb hb2 ho
    rcases hc with ⟨hs, hn1, hw⟩ | ⟨hs, hn1, hw⟩
    · simp only at hn1 hw; subst hn1
      have c' : (startS keyR s [p, q] = 0) = False := eq_false hs
      rw [movS_bad hs]
      refine Rkf (jn3 @e9 @hw @c') ?_
      refine Bf ?_
      exact AWP.skip ⟨0, hM.of (by exact Er) (by exact Er) (by exact Er) (by exact Erf @e6) (by exact Er) (by exact Er) (fun _ _ => rfl), endC_bad (C5 := [.p (.v (.int .u64 0)), .p (.sl 6 []), .p (.sl 5 []), .p (.sl 1 []), .p (.sl 1 [])]) (b + 4) hs rfl (by omega) hw, if_neg hs⟩
    · simp only at hn1 hw; subst hn1
      obtain ⟨o, hp, hq⟩ := start_two.1 hs
      have hw0 := hw
      obtain ⟨ev, ec, nv, nc, dv, dc, w1, _⟩ := hw0.w
      by_cases hr : (readT s p q).2 = 0
      · have o1 : StOK keyR (readT s p q).1 := (readT_ok o hp hq hr).ok
        have c' : ((readT s p q).2 = 0) = True := eq_true hr
        rw [movS_mv hs hr]
        refine Rkf (jn3 @e9 @w1 @c') ?_
        refine Bt ?_
        rw [hr] at hw
        refine Raf (jn3 @e9 @e1 @e2) (fun E K hE hK => ?_)
        refine CallR.use (smove_ok o1 hp hq hw (b + 7) (by omega) (by omega) (by omega) (by omega)) body_21 ?_
        rintro _ h2 ⟨rfl, k1, k2⟩
        refine Ev ?_
        refine hK _ _ _ ?_; clear hE hK K E
        refine ⟨(moveS (readT s p q).1 p q).1, hM.of (by exact Er) (by exact Er) (by exact Er) (by exact Er) (by exact Er) (by exact Er) (fun id hid => k2 id (by omega) (by omega) (by omega) (by omega) (by omega)), ?_, ?_⟩
        · have := endC_any (b + 7) (by omega) k1
          unfold endS at this
          simp only at this
          split
          · rename_i c; rw [if_pos c] at this; exact this
          · rename_i c; rw [if_neg c] at this; exact this
        · by_cases c : (moveS (readT s p q).1 p q).2.2 = 0 <;> simp [c]
      · have c' : ((readT s p q).2 = 0) = False := eq_false hr
        rw [movS_rd hs hr]
        refine Rkf (jn3 @e9 @w1 @c') ?_
        refine Bf ?_
        obtain ⟨C5, q1, q2⟩ := hw.err
        exact AWP.skip ⟨0, hM.of (by exact Er) (by exact Er) (by exact Er) (by exact Erf @e6) (by exact Er) (by exact Er) (fun _ _ => rfl), endC_bad (b + 7) hr q1 (by omega) q2, if_neg hr⟩
  clear hM hc t h1 n
  rintro ⟨t, h1, n⟩ ⟨v0, hM, hc, hv0⟩
  obtain ⟨⟨how, m, e⟩, hv⟩ : ∃ v, movS keyR s p q = v := ⟨_, rfl⟩
  rw [hv] at hc hv0 ⊢
  simp only at hc hv0 ⊢
  obtain ⟨e1, e2, e3, e6, e7, e9, ⟨v, hb⟩, hb2, ho⟩ := hM
  simp only at e1 e2 e3 e6 e7 e9 hb hb2 ho
  refine Rgf (jn2 @e9 @hb) (fun E K hE hK => ?_)
  refine CallR.use hc body_20 ?_
  rintro _ h2 ⟨rfl, k2⟩
  have hb' := (k2 b (by omega)).trans hb
  have hb2' := (k2 (b + 1) (by omega)).trans hb2
  simp -implicitDefEqProofs only [go_sem, ↓reduceIte, Nat.reduceEqDiff, Nat.reduceAdd, Nat.reduceLT, Nat.reduceLeDiff, reduceCtorEq, Int.toNat_natCast, e3, hb', SgV, encSg]
  refine hK _ _ _ ?_; clear hE hK K E
  refine Am.AWP.mid (fun st => st.t 6 = IntV how ∧ st.t 3 = .one (.ptr b 0 0) ∧ st.t 7 = .one (.ptr (b + 1) 0 0) ∧ st.t 10 = IntV e ∧ st.h b = some ⟨0, (encSg m).map .p⟩ ∧ st.h (b + 1) = some ⟨0, [.p (.v (.int .u64 0)), .p (.v (.slice none 0 0)), .p (.v (.slice none 0 0)), .p (.v (.slice none 0 0)), .p (.v (.slice none 0 0))]⟩ ∧ ∀ id, id < b → st.h id = h id) ?_ ?_
  · have hout : ∀ c id, id < b → (upd h2 b c) id = h id := fun c id hid => (upd_ne _ _ _ _ (Nat.ne_of_lt hid)).trans ((k2 id (by omega)).trans (ho id hid))
    by_cases c : e = 0
    · have c' : (e = 0) = True := eq_true c
      rw [if_pos c] at hv0
      subst hv0
      refine Rkf @c' ?_
      refine Bf ?_
      exact AWP.skip ⟨by exact Erf @e6, by exact Erf @e3, by exact Erf @e7, by exact Er, by exact Er, by exact Erf @hb2', hout _⟩
    · have c' : (e = 0) = False := eq_false c
      rw [if_neg c] at hv0
      subst hv0
      refine Rkf @c' ?_
      refine Bt ?_
      refine Ra (fun E K hE hK => ?_); refine hK _ _ _ ?_; clear hE hK K E
      exact ⟨by exact Er, by exact Erf @e3, by exact Erf @e7, by exact Er, by exact Er, by exact Erf @hb2', hout _⟩
  clear hc hv0 e1 e2 e3 e6 e7 e9 hb hb2 ho k2 hb' hb2' h1 h2 t n
  rintro ⟨t, h1, n⟩ ⟨e6, e3, e7, e10, hb, hb2, ho⟩
  simp only at e6 e3 e7 e10 hb hb2 ho
  refine AWP.seqRegD [] [] [b + 1] mixed (by kernel_rfl) (by kernel_rfl) (fun K hK => .inl ?_) (by kernel_rfl); simp -implicitDefEqProofs only [go_sem, ↓reduceIte, Nat.reduceEqDiff, Nat.reduceAdd, Nat.reduceLT, Nat.reduceLeDiff, reduceCtorEq, Int.toNat_natCast, e3, e6, e7, e10, hb, hb2, encSg]
  refine ⟨sub_at _ (by exact Erf @hb2), ?_⟩
  refine hK _ _ _ ?_; clear hK K
  refine AWP.ret ?_
  exact Ends.pure hn H (fun id hid => (upd_ne _ _ _ _ (Nat.ne_of_lt (Nat.lt_add_right 1 hid))).trans (ho id hid)) (r0 := .tup [IntV how, SgV m, IntV e]) (by rw [show Tryd.f8.results.toList = [.tmp 6, .cell 7 29, .tmp 8] from rfl]; exact Erf @e7) (frz_tup3 (.v _) (frz_psS _) (.v _)) ⟨rfl, rfl⟩
end Go.Proofs.YtihgnpboabpchaaDoor
namespace Go.Proofs.YtihgnpboabpchaaDoor
set_option linter.unusedSimpArgs false
set_option linter.unusedVariables false
set_option linter.unnecessarySimpa false
open Go Am
set_option maxRecDepth 100000
theorem frbS_run (args : Array Value) (w : World) : (callFunc 36 args).run Tryd.prog w = ((Extern.MathFloatBits.float64frombits args).run Tryd.prog w).andThen fun v w' => .ok (.value v) w' :=
  run_callFunc_extern (fn := Tryd.f36) Tryd.func36 (by kernel_rfl) (by kernel_rfl) (by kernel_rfl) (e := Extern.MathFloatBits.float64frombits) (by kernel_rfl) args w
theorem frbS_ext {C : Ctx} {h : Heap} {n : Nat} {K : KT} {x : Int} (k : K (.one (.p (.v (.float .f64 x.toNat)))) h n) : ExtK Tryd.prog C 36 [.one (.p (.v (.int .u64 x)))] h n K := by
  intro a w ι Vs I hVs
  obtain ⟨hlen, hVs⟩ := hVs
  match Vs, hlen with
  | [X], _ =>
    have hX := rav_v_inv (hVs 0 _ X rfl rfl)
    subst hX
    refine ⟨.float .f64 x.toNat, w, _, h, n, ι, ?_, k, I, rav_v _, .refl _ _ _ _⟩
    rw [frbS_run]
    rfl
abbrev FltV (x : Nat) : AV := .one (.p (.v (.float .f64 x)))
theorem isNaNS_ok (x : Nat) (h : Heap) (b : Nat) : ACalls Tryd.prog 23 [FltV x] h b 0 (fun r h' => r = BoolV (FloatKind.f64.format.order x x != some .eq) ∧ h' = h) := by
  refine ACalls.enter Tryd.func23 rfl (by simp [Tryd.ntmps23]) (fun ι w hn H => ?_)
  refine Rk ?_
  refine Rk ?_
  refine AWP.ret ?_
  exact Ends.pure hn H (fun _ _ => rfl) (r0 := BoolV (FloatKind.f64.format.order x x != some .eq)) (by rw [show Tryd.f23.results.toList = [.tmp 2] from rfl]; exact Er) (.v _) ⟨rfl, rfl⟩
theorem NaNS_ok (h : Heap) (b : Nat) : ACalls Tryd.prog 24 [] h b 0 (fun r h' => r = FltV 9221120237041090561 ∧ h' = h) := by
  refine ACalls.enter Tryd.func24 rfl (by simp [Tryd.ntmps24]) (fun ι w hn H => ?_)
  refine Rk ?_
  refine Rg (fun E K hE hK => ?_)
  refine CallR.ext (frbS_ext ?_)
  refine Ev ?_
  refine hK _ _ _ ?_; clear hE hK K E
  refine AWP.ret ?_
  exact Ends.pure hn H (fun _ _ => rfl) (r0 := FltV 9221120237041090561) (by rw [show Tryd.f24.results.toList = [.tmp 0] from rfl]; exact Er) (.v _) ⟨rfl, rfl⟩
def putM (p : S) (r : Nat) (d : S) (h : Heap) (b : Nat) (st : St) : Prop :=
  st.t 1 = StrV p ∧ st.t 2 = FltV r ∧ st.t 3 = OctV d ∧ st.t 8 = .one (.ptr (b + 1) 0 0) ∧ st.t 10 = .one (.ptr (b + 3) 0 0) ∧
    st.h (b + 1) = some ⟨0, [.p (.v (.int .u64 0)), .p (.v (.slice none 0 0)), .p (.v (.slice none 0 0)), .p (.v (.slice none 0 0)), .p (.v (.slice none 0 0))]⟩ ∧ ∀ id, id < b → st.h id = h id
theorem putM.of {p d : S} {r r' : Nat} {h : Heap} {b : Nat} {t t' : Nat → AV} {hh hh' : Heap} {n n' : Nat} (k : putM p r d h b ⟨t, hh, n⟩) (e1 : t' 1 = t 1) (e2 : t' 2 = FltV r') (e3 : t' 3 = t 3) (e8 : t' 8 = t 8) (e10 : t' 10 = t 10) (eh : ∀ id, id < b + 3 → hh' id = hh id) : putM p r' d h b ⟨t', hh', n'⟩ := by
  obtain ⟨k1, k2, k3, k8, k10, h2, ho⟩ := k
  simp only at k1 k2 k3 k8 k10 h2 ho
  exact ⟨e1.trans k1, e2, e3.trans k3, e8.trans k8, e10.trans k10, (eh (b + 1) (by omega)).trans h2, fun id hid => (eh id (by omega)).trans (ho id hid)⟩
theorem putS_bad {s : Sg} {p d : S} {r : Nat} (hs : startS keyR s [p] ≠ 0) : putS keyR s p r d = (zSg, startS keyR s [p]) := by unfold putS; rw [if_pos hs]
theorem putS_go {s : Sg} {p d : S} {r : Nat} (hs : startS keyR s [p] = 0) : putS keyR s p r d = endS (editS s (if 65536 < d.length then 3 else 0) ⟨p, false, canonE r, [], d⟩) := by
  unfold putS
  rw [if_neg (by rw [hs]; simp)]
  split
  · rw [edit_stuck (by decide)]; rfl
  · rfl
theorem sputF_ok (s : Sg) (p : S) (r : Nat) (d : S) (hd : d.length ≤ 1000000) (z : SzS s) (h : Heap) (b : Nat) : ACalls Tryd.prog 10 [SgV s, StrV p, FltV r, OctV d] h b 0 (fun v h' => v = .tup [SgV (putS keyR s p r d).1, IntV (putS keyR s p r d).2] ∧ h' = h) := by
  refine ACalls.enter Tryd.func10 rfl (by simp [Tryd.ntmps10]) (fun ι w hn H => ?_)
  have hlow := H.lowCells
  have hdl : (d.map encO).length = d.length := List.length_map _
  refine Rk ?_
  refine Am.AWP.mid (fun st => putM p r d h b st ∧ ((startS keyR s [p] ≠ 0 ∧ st.n = 4 ∧ st.h (b + 3) = some ⟨0, seC (startS keyR s [p])⟩) ∨ (startS keyR s [p] = 0 ∧ st.n = 7 ∧ SW st.h (b + 3) (b + 4) (b + 5) (b + 6) s 0))) ?_ ?_
  · by_cases hs : startS keyR s [p] = 0
    · refine Ra (fun E K hE hK => ?_)
      refine CallR.use (sstartL_ok z (by simp) hs (b + 3) (show b + 2 < b + 3 by omega) (upd_same _ _ _)) body_17 ?_
      rintro _ h2 ⟨rfl, k1, k2⟩
      refine hK _ _ _ ?_; clear hE hK K E
      refine ⟨⟨by exact Er, by exact Er, by exact Er, by exact Er, by exact Er, (k2 (b + 1) (by omega) (by omega)).trans (by exact Er), fun id hid => ?_⟩, .inr ⟨hs, rfl, k1⟩⟩
      have hid' : id < b := hid
      have q0 : ¬ id = b := by omega
      have q1 : ¬ id = b + 1 := by omega
      have q2 : ¬ id = b + 2 := by omega
      exact (k2 id (show id < b + 3 by omega) (by omega)).trans (by exact Erf (jn3 @q0 @q1 @q2))
    · refine Ra (fun E K hE hK => ?_)
      refine CallR.use (sstartBadL_ok z (by simp) hs (b + 3) (show b + 2 < b + 3 by omega) (upd_same _ _ _)) body_17 ?_
      rintro _ h2 ⟨rfl, k1, k2⟩
      refine hK _ _ _ ?_; clear hE hK K E
      refine ⟨⟨by exact Er, by exact Er, by exact Er, by exact Er, by exact Er, (k2 (b + 1) (by omega) (by omega)).trans (by exact Er), fun id hid => ?_⟩, .inl ⟨hs, rfl, k1⟩⟩
      have hid' : id < b := hid
      have q0 : ¬ id = b := by omega
      have q1 : ¬ id = b + 1 := by omega
      have q2 : ¬ id = b + 2 := by omega
      exact (k2 id (show id < b + 3 by omega) (by omega)).trans (by exact Erf (jn3 @q0 @q1 @q2))
  rintro ⟨t, h1, n⟩ ⟨hM, hc⟩
  refine Am.AWP.mid (fun st => putM p r d h b st ∧ ((startS keyR s [p] ≠ 0 ∧ st.n = 4 ∧ st.h (b + 3) = some ⟨0, seC (startS keyR s [p])⟩) ∨ (startS keyR s [p] = 0 ∧ st.n = 7 ∧ SW st.h (b + 3) (b + 4) (b + 5) (b + 6) s (if 65536 < d.length then 3 else 0)))) ?_ ?_
  · have hM0 := hM
    obtain ⟨e1, e2, e3, e8, e10, hb1, ho⟩ := hM0
    simp only at e1 e2 e3 e8 e10 hb1 ho
    rcases hc with ⟨hs, hn1, hw⟩ | ⟨hs, hn1, hw⟩
    · simp only at hn1 hw; subst hn1
      have c' : (startS keyR s [p] = 0) = False := eq_false hs
      refine Rkf (jn3 @e10 @hw @c') ?_
      refine Bf ?_
      exact AWP.skip ⟨hM.of (by exact Er) (by exact Erf @e2) (by exact Er) (by exact Er) (by exact Er) (fun _ _ => rfl), .inl ⟨hs, rfl, hw⟩⟩
    · simp only at hn1 hw; subst hn1
      have hw0 := hw
      obtain ⟨ev, ec, nv, nc, dv, dc, w1, w2, w3, w4⟩ := hw0.w
      by_cases c : (65536 : Int) < d.length
      · have c' : ((65536 : Int) < d.length) = True := eq_true c
        rw [if_pos (show 65536 < d.length by omega)]
        refine Rkf (jn5 @e10 @w1 @e3 @hdl @c') ?_
        refine Bt ?_
        refine Raf (jn2 @e10 @w1) (fun E K hE hK => ?_)
        refine hK _ _ _ ?_; clear hE hK K E
        refine ⟨hM.of (by exact Er) (by exact Erf @e2) (by exact Er) (by exact Er) (by exact Er) (fun id hid => upd_ne _ _ _ _ (Nat.ne_of_lt hid)), .inr ⟨hs, rfl, ⟨ev, ec, nv, nc, dv, dc, upd_same _ _ _, w2.ne (by omega), w3.ne (by omega), w4.ne (by omega)⟩, hw.d1, hw.d2, hw.d3, hw.d4, hw.d5, hw.d6⟩⟩
      · have c' : ((65536 : Int) < d.length) = False := eq_false c
        rw [if_neg (show ¬ 65536 < d.length by omega)]
        refine Rkf (jn5 @e10 @w1 @e3 @hdl @c') ?_
        refine Bf ?_
        exact AWP.skip ⟨hM.of (by exact Er) (by exact Erf @e2) (by exact Er) (by exact Er) (by exact Er) (fun _ _ => rfl), .inr ⟨hs, rfl, hw⟩⟩
  clear hM hc t h1 n
  rintro ⟨t, h1, n⟩ ⟨hM, hc⟩
  refine Am.AWP.mid (fun st => putM p (canonE r) d h b st ∧ ((startS keyR s [p] ≠ 0 ∧ st.n = 4 ∧ st.h (b + 3) = some ⟨0, seC (startS keyR s [p])⟩) ∨ (startS keyR s [p] = 0 ∧ st.n = 7 ∧ SW st.h (b + 3) (b + 4) (b + 5) (b + 6) s (if 65536 < d.length then 3 else 0)))) ?_ ?_
  · have hM0 := hM
    obtain ⟨e1, e2, e3, e8, e10, hb1, ho⟩ := hM0
    simp only at e1 e2 e3 e8 e10 hb1 ho
    cases hnan : (FloatKind.f64.format.order r r != some .eq)
    · have hcr : canonE r = r := by unfold canonE; rw [if_neg (by rw [hnan]; simp)]
      rw [hcr]
      refine Rgf @e2 (fun E K hE hK => ?_)
      refine Us (isNaNS_ok r _ _) body_23 ?_
      refine Evf @hnan ?_
      refine hK _ _ _ ?_; clear hE hK K E
      refine Bf ?_
      exact AWP.skip ⟨hM.of (by exact Er) (by exact Erf @e2) (by exact Er) (by exact Er) (by exact Er) (fun _ _ => rfl), hc⟩
    · have hcr : canonE r = 9221120237041090561 := by unfold canonE; rw [if_pos hnan]
      rw [hcr]
      refine Rgf @e2 (fun E K hE hK => ?_)
      refine Us (isNaNS_ok r _ _) body_23 ?_
      refine Evf @hnan ?_
      refine hK _ _ _ ?_; clear hE hK K E
      refine Bt ?_
      refine Ra (fun E K hE hK => ?_)
      refine Us (NaNS_ok _ _) body_24 ?_
      refine hK _ _ _ ?_; clear hE hK K E
      exact ⟨hM.of (by exact Er) (by exact Er) (by exact Er) (by exact Er) (by exact Er) (fun _ _ => rfl), hc⟩
  clear hM hc t h1 n
  rintro ⟨t, h1, n⟩ ⟨hM, hc⟩
  refine Am.AWP.mid (fun st => putM p (canonE r) d h b st ∧ endC st.h (b + st.n) (b + 3) (putS keyR s p r d).1 (putS keyR s p r d).2) ?_ ?_
  · have hM0 := hM
    obtain ⟨e1, e2, e3, e8, e10, hb1, ho⟩ := hM0
    simp only at e1 e2 e3 e8 e10 hb1 ho
    rcases hc with ⟨hs, hn1, hw⟩ | ⟨hs, hn1, hw⟩
    · simp only at hn1 hw; subst hn1
      rw [putS_bad hs]
      refine Raf (jn4 @e1 @e2 @e3 @e10) (fun E K hE hK => ?_)
      refine CallR.use ((clone_oc_ok (d.map encO) (okEs_oct d) _ _ (by rw [List.length_map]; omega)).rowFrz (okEs_oct d)) body_26 ?_
      rintro _ _ ⟨rfl, rfl⟩
      refine Evf (jn4 @e1 @e2 @e3 @e10) ?_
      refine Us (seditBad_ok _ ⟨p, false, canonE r, [], d⟩ hs _ (b + 4) (b + 3) (by omega) hw) body_25 ?_
      refine hK _ _ _ ?_; clear hE hK K E
      exact ⟨hM.of (by exact Er) (by exact Erf @e2) (by exact Er) (by exact Er) (by exact Er) (fun _ _ => rfl), endC_bad (C5 := [.p (.v (.int .u64 0)), .p (.sl 6 []), .p (.sl 5 []), .p (.sl 1 []), .p (.sl 1 [])]) (b + 4) hs rfl (by omega) hw⟩
    · simp only at hn1 hw; subst hn1
      obtain ⟨o, hp⟩ := start_one.1 hs
      rw [putS_go hs]
      refine Raf (jn4 @e1 @e2 @e3 @e10) (fun E K hE hK => ?_)
      refine CallR.use ((clone_oc_ok (d.map encO) (okEs_oct d) _ _ (by rw [List.length_map]; omega)).rowFrz (okEs_oct d)) body_26 ?_
      rintro _ _ ⟨rfl, rfl⟩
      refine Evf (jn4 @e1 @e2 @e3 @e10) ?_
      refine CallR.use (sedit2_ok (x := ⟨p, false, canonE r, [], d⟩) _ o hp hw (b + 7) (by omega) (by omega) (by omega) (by omega)) body_25 ?_
      rintro _ h2 ⟨rfl, k1, k2⟩
      refine hK _ _ _ ?_; clear hE hK K E
      exact ⟨hM.of (by exact Er) (by exact Erf @e2) (by exact Er) (by exact Er) (by exact Er) (fun id hid => k2 id (by omega) (by omega) (by omega) (by omega) (by omega)), endC_any (b + 7) (by omega) k1⟩
  clear hM hc t h1 n
  rintro ⟨t, h1, n⟩ ⟨hM, hc⟩
  obtain ⟨⟨m, e⟩, hv⟩ : ∃ v, putS keyR s p r d = v := ⟨_, rfl⟩
  rw [hv] at hc ⊢
  simp only at hc ⊢
  obtain ⟨e1, e2, e3, e8, e10, hb1, ho⟩ := hM
  simp only at e1 e2 e3 e8 e10 hb1 ho
  refine Rgf @e10 (fun E K hE hK => ?_)
  refine CallR.use hc body_20 ?_
  rintro _ h2 ⟨rfl, k2⟩
  have hb1' := (k2 (b + 1) (by omega)).trans hb1
  simp -implicitDefEqProofs only [go_sem, ↓reduceIte, Nat.reduceEqDiff, Nat.reduceAdd, Nat.reduceLT, Nat.reduceLeDiff, reduceCtorEq, Int.toNat_natCast, e8, hb1', SgV, encSg]
  refine hK _ _ _ ?_; clear hE hK K E
  refine AWP.ret ?_
  exact Ends.pure hn H (fun id hid => (upd_ne _ _ _ _ (Nat.ne_of_lt (Nat.lt_add_right 1 hid))).trans ((k2 id (Nat.lt_add_right 3 hid)).trans (ho id hid))) (r0 := .tup [SgV m, IntV e]) (by rw [show Tryd.f10.results.toList = [.cell 8 29, .tmp 9] from rfl]; exact Erf @e8) (frz_tup2 (frz_psS _) (.v _)) ⟨rfl, rfl⟩
end Go.Proofs.YtihgnpboabpchaaDoor
namespace Go.Proofs.YtihgnpboabpchaaDoor
set_option linter.unusedSimpArgs false
set_option linter.unusedVariables false
set_option linter.unnecessarySimpa false
open Go Am
set_option maxRecDepth 100000
def wriI (s : Sg) (h : Heap) (b i : Nat) (st : St) : Prop :=
  st.h (b + 1) = some ⟨0, ((s.ed.map nmE).take i ++ List.replicate (s.ed.length - i) []).map strC⟩ ∧ (∀ id, id < b → st.h id = h id) ∧
    st.t 5 = .one (.win (b + 1) 0 0 s.ed.length s.ed.length) ∧ st.t 18 = EdsV s.ed ∧ st.t 19 = IntV s.ed.length ∧ st.t 20 = IntV (i : Nat) ∧ ∃ v, st.h b = some ⟨0, (encSg v).map .p⟩
end Go.Proofs.YtihgnpboabpchaaDoor
namespace Go.Proofs.YtihgnpboabpchaaDoor
set_option linter.unusedSimpArgs false
set_option linter.unusedVariables false
set_option linter.unnecessarySimpa false
open Go Am
set_option maxRecDepth 100000
theorem sSameB_ok (s u : S) (h : Heap) (b : Nat) : ACalls Tryd.prog 11 [OctV s, OctV u] h b 0 (fun r h' => r = BoolV (decide (s = u)) ∧ h' = h) := by
  refine ACalls.enter Tryd.func11 rfl (by simp [Tryd.ntmps11]) (fun ι w hn H => ?_)
  have o1 := octE_mapM s
  have o2 := octE_mapM u
  have ho : octT Tryd.prog 30 9 = true := by kernel_rfl
  refine Rk ?_
  refine Rkf (jn3 @o1 @o2 @ho) ?_
  refine AWP.ret ?_
  exact Ends.pure hn H (fun _ _ => rfl) (r0 := BoolV (decide (s = u))) (by rw [show Tryd.f11.results.toList = [.tmp 4] from rfl]; exact Er) (.v _) ⟨rfl, rfl⟩
theorem sOne_ok (x : Ed) (h : Heap) (b : Nat) : ACalls Tryd.prog 9 [EdV x, EdV x] h b 0 (fun r h' => r = BoolV true ∧ h' = h) := by
  refine ACalls.enter Tryd.func9 rfl (by simp [Tryd.ntmps9]) (fun ι w hn H => ?_)
  have d1 : (keyD x.rank = keyD x.rank) = True := eq_true rfl
  have d2 : (x.data = x.data) = True := eq_true rfl
  refine Rk ?_
  cases hg : x.gone
  all_goals
    refine Rgf (jn2 @hg @mkS_list) (fun E K hE hK => ?_)
    refine Us (rankSameD_ok x.rank x.rank _ _) body_22 ?_
    try (refine Evf (jn2 @d1 @mkS_list) ?_)
    refine Us (sSameB_ok x.data x.data _ _) body_11 ?_
    try (refine Evf @d2 ?_)
    refine hK _ _ _ ?_; clear hE hK K E
    refine AWP.ret ?_
    exact Ends.pure hn H Ou (r0 := BoolV true) (by rw [show Tryd.f9.results.toList = [.tmp 4] from rfl]; exact Er) (.v _) ⟨rfl, rfl⟩
end Go.Proofs.YtihgnpboabpchaaDoor
namespace Go.Proofs.YtihgnpboabpchaaDoor
set_option linter.unusedSimpArgs false
set_option linter.unusedVariables false
set_option linter.unnecessarySimpa false
open Go Am
set_option maxRecDepth 100000
def begS (t : List Fl) (g : Int) : Sg × Int := if checkS keyR ⟨g, t, [], [], []⟩ ≠ 0 then (zSg, checkS keyR ⟨g, t, [], [], []⟩) else (⟨g, t, [], [], []⟩, 0)
theorem frz_sgN {h : Heap} {b : Nat} (g : Int) (t : List Fl) : frzV h b (.agg [.p (.v (.int .u64 g)), .p (.sl 6 (t.map encF)), .p (.v (.slice none 0 0)), .p (.v (.slice none 0 0)), .p (.v (.slice none 0 0))]) (SgV ⟨g, t, [], [], []⟩) := by
  refine .agg rfl (fun i c d hc hd => ?_)
  match i with
  | 0 | 1 => simp at hc hd; subst hc; subst hd; exact frz_p _
  | 2 => simp at hc hd; subst hc; subst hd; exact frz_nil 5
  | 3 => simp at hc hd; subst hc; subst hd; exact frz_nil 1
  | 4 => simp at hc hd; subst hc; subst hd; exact frz_nil 1
  | i + 5 => simp at hc
theorem sbegin_ok (t : List Fl) (g : Int) (ht : t.length ≤ 1000000) (h : Heap) (b : Nat) : ACalls Tryd.prog 14 [FlsV t, .one (.p (.v (.int .u64 g)))] h b 0 (fun r h' => r = .tup [SgV (begS t g).1, IntV (begS t g).2] ∧ h' = h) := by
  refine ACalls.enter Tryd.func14 rfl (by simp [Tryd.ntmps14]) (fun ι w hn H => ?_)
  have htl : (t.map encF).length = t.length := List.length_map _
  refine Rk ?_
  refine Rg (fun E K hE hK => ?_)
  refine CallR.use ((clone_fl_ok (t.map encF) (okEs_fl t) _ _ (by omega)).rowFrz (okEs_fl t)) body_28 ?_
  rintro _ _ ⟨rfl, rfl⟩
  refine Ev ?_
  refine hK _ _ _ ?_; clear hE hK K E
  refine AWP.seq ?_
  refine Rg (fun E K hE hK => ?_)
  refine CallR.use ((sCheck_ok ⟨g, t, [], [], []⟩ ht (by simp) (by simp) (by simp) _ _).argNil ⟨⟨.inl rfl, .inl rfl, .nil 5, .nil 1, .nil 1, trivial⟩, trivial⟩) body_27 ?_
  rintro _ _ ⟨rfl, rfl⟩
  refine Ev ?_
  refine hK _ _ _ ?_; clear hE hK K E
  obtain ⟨e, he⟩ : ∃ e, checkS keyR ⟨g, t, [], [], []⟩ = e := ⟨_, rfl⟩
  rw [he]
  by_cases c : e = 0
  · have c' : (e = 0) = True := eq_true c
    have hv : begS t g = (⟨g, t, [], [], []⟩, 0) := by unfold begS; rw [he, if_neg (by rw [c]; simp)]
    rw [hv]
    refine Rkf @c' ?_
    refine Bs ?_
    refine Rk ?_
    refine AWP.ret ?_
    exact Ends.pure hn H Ou (r0 := .tup [.agg [.p (.v (.int .u64 g)), .p (.sl 6 (t.map encF)), .p (.v (.slice none 0 0)), .p (.v (.slice none 0 0)), .p (.v (.slice none 0 0))], IntV 0]) (by rw [show Tryd.f14.results.toList = [.cell 4 29, .tmp 5] from rfl]; exact Er) (frz_tup2 (frz_sgN g t) (.v _)) ⟨rfl, rfl⟩
  · have c' : (e = 0) = False := eq_false c
    have hv : begS t g = (zSg, e) := by unfold begS; rw [he, if_pos c]
    rw [hv]
    refine Rkf @c' ?_
    refine Bt ?_
    refine Rk ?_
    refine AWP.ret ?_
    refine Ev ?_
    exact Ends.pure hn H Ou (r0 := .tup [.agg [.p (.v (.int .u64 0)), .p (.v (.slice none 0 0)), .p (.v (.slice none 0 0)), .p (.v (.slice none 0 0)), .p (.v (.slice none 0 0))], IntV e]) (by rw [show Tryd.f14.results.toList = [.cell 4 29, .tmp 5] from rfl]; exact Er) (frz_tup2 frz_sg0 (.v _)) ⟨rfl, rfl⟩
def fewE (x : Ed) : Bool := decide (x.name.length ≤ 200) && (decide (x.of.length ≤ 200) && decide (x.data.length ≤ 200))
def fewS (s : Sg) : Bool := s.ed.all fewE && (decide (s.t.length ≤ 30) && (fewT s.t && (decide (s.ed.length ≤ 30) && (fewN s.names && fewN s.dirs))))
theorem fewS_sz {s : Sg} (h : fewS s = true) : SzS s := by
  unfold fewS at h
  simp only [Bool.and_eq_true, decide_eq_true_eq, List.all_eq_true] at h
  obtain ⟨h1, h2, h3, h4, h5, h6⟩ := h
  unfold fewN at h5 h6
  simp only [Bool.and_eq_true, decide_eq_true_eq] at h5 h6
  refine ⟨by omega, by omega, by omega, by omega, fun x hx => ?_⟩
  have := h1 x hx
  unfold fewE at this
  simp only [Bool.and_eq_true, decide_eq_true_eq] at this
  omega
theorem sFew_ok (s : Sg) (ht : s.t.length ≤ 9223372036854775807) (hl : s.ed.length ≤ 9223372036854775807) (hn1 : s.names.length ≤ 9223372036854775807) (hd1 : s.dirs.length ≤ 9223372036854775807) (h : Heap) (b : Nat) : ACalls Tryd.prog 6 [SgV s] h b 0 (fun r h' => r = BoolV (fewS s) ∧ h' = h) := by
  refine ACalls.enter Tryd.func6 rfl (by simp [Tryd.ntmps6]) (fun ι w hn H => ?_)
  have hlow := H.lowCells
  have hlm : (s.ed.map encEd).length = s.ed.length := List.length_map _
  have htl : (s.t.map encF).length = s.t.length := List.length_map _
  have fin : ∀ (t : Nat → AV) (hh : Heap) (n : Nat) (v : Bool), t 2 = BoolV v → (∀ id, id < b → hh id = h id) → v = fewS s → Am.Ends Tryd.prog ⟨Tryd.f6.ntmps, b, ι, h, w, x0⟩ Tryd.f6 0 (fun r h' => r = BoolV (fewS s) ∧ h' = h) ⟨t, hh, n⟩ := by
    intro t hh n v ht ho hv
    exact Ends.pure hn H ho (r0 := BoolV v) (by rw [show Tryd.f6.results.toList = [.tmp 2] from rfl]; exact Ecf @ht) (.v _) ⟨by rw [hv], rfl⟩
  refine Rk ?_
  refine AWP.mid (fun st => (∀ id, id < b → st.h id = h id) ∧ st.t 1 = .one (.ptr b 0 0) ∧ st.h b = some ⟨0, (encSg s).map .p⟩ ∧ s.ed.all fewE = true) ?_ ?_
  · refine Rkf @hlm ?_
    refine AWP.block ?_
    refine AWP.loopUp 1 s.ed.length (fun i st => (∀ id, id < b → st.h id = h id) ∧ st.t 1 = .one (.ptr b 0 0) ∧ st.h b = some ⟨0, (encSg s).map .p⟩ ∧ st.t 6 = EdsV s.ed ∧ st.t 7 = IntV s.ed.length ∧ st.t 8 = IntV (i : Nat) ∧ (s.ed.take i).all fewE = true) 0 (Nat.zero_le _) rfl ⟨Ou, by exact Er, by exact Er, by exact Er, by exact Er, by exact Er, by simp⟩ ?_
    rintro i ⟨t, hh, n⟩ hi ⟨ho, e1, hb, e6, e7, e8, hne⟩ hn1
    simp only at ho e1 hb e6 e7 e8 hn1
    subst hn1
    refine Rkf (jn2 @e7 @e8) ?_
    refine AWP.seq ?_
    by_cases hlt : (i : Int) < s.ed.length
    · have hi2 : i < s.ed.length := by omega
      have hw1 : IntKind.i64.wrap ((i : Int) + 1) = ((i + 1 : Nat) : Int) := by rw [wrap_i64 (by omega) (by omega)]; rfl
      have hge : (s.ed.map encEd).getD i [] = encEd s.ed[i] := encEd_getD s.ed i hi2
      have htk : s.ed.take (i + 1) = s.ed.take i ++ [s.ed[i]] := by rw [List.take_add_one, List.getElem?_eq_getElem hi2]; rfl
      obtain ⟨x, hx⟩ : ∃ x, s.ed[i] = x := ⟨_, rfl⟩
      have hxm : x ∈ s.ed := by rw [← hx]; exact List.getElem_mem hi2
      rw [hx] at hge htk
      have hdl : (x.data.map encO).length = x.data.length := List.length_map _
      have bad : fewE x = false → false = fewS s := fun hb => by
        cases hf : fewS s with
        | false => rfl
        | true =>
          unfold fewS at hf
          rw [Bool.and_eq_true, List.all_eq_true] at hf
          rw [hf.1 x hxm] at hb; cases hb
      refine Btf @hlt ?_
      refine AWP.skip ?_
      refine Ev ?_
      refine AWP.seq ?_
      refine AWP.block ?_
      refine AWP.seqReg (by kernel_rfl) (fun E K hE hK => ?_); simp -implicitDefEqProofs only [go_sem, ↓reduceIte, Nat.reduceEqDiff, Nat.reduceAdd, Nat.reduceLT, Nat.reduceLeDiff, reduceCtorEq, Int.toNat_natCast, e6, e8, hlm, hlt, hge, encEd]
      refine ⟨by omega, ?_⟩
      refine hK _ _ _ ?_; clear hE hK K E
      by_cases c1 : (200 : Int) < x.name.length
      · refine Rkf (jn2 @mkS_size @c1) ?_
        refine Bt ?_
        refine Rk ?_
        refine AWP.ret ?_
        refine Ev ?_
        exact fin _ _ _ false (by exact Er) (Ouf @ho) (bad (by unfold fewE; rw [decide_eq_false (by omega)]; rfl))
      by_cases c2 : (200 : Int) < x.of.length
      · refine Rkf (jn3 @mkS_size @c1 @c2) ?_
        refine Bt ?_
        refine Rk ?_
        refine AWP.ret ?_
        refine Ev ?_
        exact fin _ _ _ false (by exact Er) (Ouf @ho) (bad (by unfold fewE; rw [decide_eq_false (show ¬ x.of.length ≤ 200 by omega)]; simp))
      by_cases c3 : (200 : Int) < x.data.length
      · refine Rkf (jn5 @mkS_size @c1 @c2 @c3 @hdl) ?_
        refine Bt ?_
        refine Rk ?_
        refine AWP.ret ?_
        refine Ev ?_
        exact fin _ _ _ false (by exact Er) (Ouf @ho) (bad (by unfold fewE; rw [decide_eq_false (show ¬ x.data.length ≤ 200 by omega)]; simp))
      refine Rkf (jn5 @mkS_size @c1 @c2 @c3 @hdl) ?_
      refine Bf ?_
      refine AWP.skip ?_
      refine Ev ?_
      refine Raf (jn2 @e8 @hw1) (fun E K hE hK => ?_); refine hK _ _ _ ?_; clear hE hK K E
      exact ⟨(by decide : 1 ≤ 2), hi2, cutH_outer (Nat.le_add_right _ _) (Ouf @ho) hlow, by refine Evf @e1 ?_; exact cutV_ptr (Nat.lt_add_of_pos_right (by decide)), cutH_same (Nat.lt_add_of_pos_right (by decide)) (by exact Erf @hb) (by simp [lowCs, lowC]), by exact Ecf @e6, by exact Ecf @e7, by exact Er, by
        rw [htk, List.all_append, hne, List.all_cons]
        unfold fewE
        rw [decide_eq_true (by omega), decide_eq_true (by omega), decide_eq_true (by omega)]; rfl⟩
    · have hie : i = s.ed.length := by omega
      subst hie
      rw [List.take_length] at hne
      refine Bff @hlt ?_
      refine AWP.exit ?_
      refine Ev ?_
      exact ⟨ho, by exact Ecf @e1, hb, hne⟩
  rintro ⟨t, hh, n⟩ ⟨ho, e1, hb, hne⟩
  simp only at ho e1 hb
  by_cases c1 : (s.t.length : Int) ≤ 30
  case neg =>
    refine AWP.seqReg (by kernel_rfl) (fun E K hE hK => ?_); simp -implicitDefEqProofs only [go_sem, ↓reduceIte, Nat.reduceEqDiff, Nat.reduceAdd, Nat.reduceLT, Nat.reduceLeDiff, reduceCtorEq, Int.toNat_natCast, e1, hb, htl, c1, encSg]; refine hK _ _ _ ?_; clear hE hK K E
    refine AWP.ret ?_
    exact fin _ _ _ false (by exact Er) ho (by unfold fewS; rw [decide_eq_false (show ¬ s.t.length ≤ 30 by omega)]; simp)
  cases c2 : fewT s.t
  · refine AWP.seqReg (by kernel_rfl) (fun E K hE hK => ?_); simp -implicitDefEqProofs only [go_sem, ↓reduceIte, Nat.reduceEqDiff, Nat.reduceAdd, Nat.reduceLT, Nat.reduceLeDiff, reduceCtorEq, Int.toNat_natCast, e1, hb, htl, c1, encSg]
    refine Us (fewT_ok s.t ht _ _) body_15 ?_
    refine Evf @c2 ?_
    refine hK _ _ _ ?_; clear hE hK K E
    refine AWP.ret ?_
    exact fin _ _ _ false (by exact Er) ho (by unfold fewS; rw [c2]; simp)
  by_cases c3 : (s.ed.length : Int) ≤ 30
  case neg =>
    refine AWP.seqReg (by kernel_rfl) (fun E K hE hK => ?_); simp -implicitDefEqProofs only [go_sem, ↓reduceIte, Nat.reduceEqDiff, Nat.reduceAdd, Nat.reduceLT, Nat.reduceLeDiff, reduceCtorEq, Int.toNat_natCast, e1, hb, htl, c1, encSg]
    refine Us (fewT_ok s.t ht _ _) body_15 ?_
    simp -implicitDefEqProofs only [go_sem, ↓reduceIte, Nat.reduceEqDiff, Nat.reduceAdd, Nat.reduceLT, Nat.reduceLeDiff, reduceCtorEq, Int.toNat_natCast, c2, c3, e1, hb, encSg, hlm]
    refine hK _ _ _ ?_; clear hE hK K E
    refine AWP.ret ?_
    exact fin _ _ _ false (by exact Er) ho (by unfold fewS; rw [decide_eq_false (show ¬ s.ed.length ≤ 30 by omega)]; simp)
  cases c4 : fewN s.names
  · refine AWP.seqReg (by kernel_rfl) (fun E K hE hK => ?_); simp -implicitDefEqProofs only [go_sem, ↓reduceIte, Nat.reduceEqDiff, Nat.reduceAdd, Nat.reduceLT, Nat.reduceLeDiff, reduceCtorEq, Int.toNat_natCast, e1, hb, htl, c1, encSg]
    refine Us (fewT_ok s.t ht _ _) body_15 ?_
    simp -implicitDefEqProofs only [go_sem, ↓reduceIte, Nat.reduceEqDiff, Nat.reduceAdd, Nat.reduceLT, Nat.reduceLeDiff, reduceCtorEq, Int.toNat_natCast, c2, c3, e1, hb, encSg, hlm]
    refine Us (fewNames_ok s.names hn1 _ _) body_16 ?_
    refine Evf @c4 ?_
    refine hK _ _ _ ?_; clear hE hK K E
    refine AWP.ret ?_
    exact fin _ _ _ false (by exact Er) ho (by unfold fewS; rw [c4]; simp)
  refine AWP.seqReg (by kernel_rfl) (fun E K hE hK => ?_); simp -implicitDefEqProofs only [go_sem, ↓reduceIte, Nat.reduceEqDiff, Nat.reduceAdd, Nat.reduceLT, Nat.reduceLeDiff, reduceCtorEq, Int.toNat_natCast, e1, hb, htl, c1, encSg]
  refine Us (fewT_ok s.t ht _ _) body_15 ?_
  simp -implicitDefEqProofs only [go_sem, ↓reduceIte, Nat.reduceEqDiff, Nat.reduceAdd, Nat.reduceLT, Nat.reduceLeDiff, reduceCtorEq, Int.toNat_natCast, c2, c3, e1, hb, encSg, hlm]
  refine Us (fewNames_ok s.names hn1 _ _) body_16 ?_
  simp -implicitDefEqProofs only [go_sem, ↓reduceIte, Nat.reduceEqDiff, Nat.reduceAdd, Nat.reduceLT, Nat.reduceLeDiff, reduceCtorEq, Int.toNat_natCast, c4, e1, hb, encSg]
  refine Us (fewNames_ok s.dirs hd1 _ _) body_16 ?_
  refine hK _ _ _ ?_; clear hE hK K E
  refine AWP.ret ?_
  exact fin _ _ _ (fewN s.dirs) (by exact Er) ho (by unfold fewS; rw [hne, c2, c4, decide_eq_true (show s.t.length ≤ 30 by omega), decide_eq_true (show s.ed.length ≤ 30 by omega)]; simp)
end Go.Proofs.YtihgnpboabpchaaDoor
namespace Go.Proofs.YtihgnpboabpchaaDoor
set_option linter.unusedSimpArgs false
set_option linter.unusedVariables false
set_option linter.unnecessarySimpa false
open Go Am
set_option maxRecDepth 100000
abbrev SgL (s : Sg) : List Cell := [.p (.v (.int .u64 s.gen)), .p (.sl 6 (s.t.map encF)), .p (.sl 5 (s.ed.map encEd)), .p (.sl 1 (s.names.map encS)), .p (.sl 1 (s.dirs.map encS))]
abbrev EdL (x : Ed) : List Cell := [.p (.v (.string (mkS x.name))), .p (.v (.bool x.gone)), .p (.v (.float .f64 x.rank)), .p (.v (.string (mkS x.of))), .p (.sl 1 (x.data.map encO))]
def lvB (s1 : Sg × Int) (s2 : Sg × Int) (s3 : Int × Sg × Int) (s4 s5 : Ed × Sg × Int) : Bool :=
  decide (checkS keyR s1.1 = 0) && (decide (s1.2 = 0) && (decide (s2.2 = 0) && (decide (s3.1 = 0) && (decide (s3.2.2 = 0) && (decide (s4.2.2 = 0) && (decide (s5.2.2 = 0) && (decide (s4.1.gone = false) && (decide (s4.1.data = [7]) && decide (s5.1.gone = true)))))))))
def lv1 : Sg × Int := begS [] 3
def lv2 : Sg × Int := putS keyR lv1.1 [97] 4607182418800017408 [7]
def lv3 : Int × Sg × Int := movS keyR lv2.1 [97] [98]
def lv4 : Ed × Sg × Int := seeS keyR lv3.2.1 [98]
def lv5 : Ed × Sg × Int := seeS keyR lv4.2.1 [97]
theorem lv_run : lvB lv1 lv2 lv3 lv4 lv5 = true := by decide +kernel
theorem slive_ok (h : Heap) (b : Nat) : ACalls Tryd.prog 5 [] h b 0 (fun r h' => r = BoolV true ∧ h' = h) := by
  refine ACalls.enter Tryd.func5 rfl (by simp [Tryd.ntmps5]) (fun ι w hn H => ?_)
  have hlv := lv_run
  obtain ⟨⟨s1, e1⟩, h1⟩ : ∃ v, lv1 = v := ⟨_, rfl⟩
  obtain ⟨⟨s2, e2⟩, h2⟩ : ∃ v, lv2 = v := ⟨_, rfl⟩
  obtain ⟨⟨how, s3, e3⟩, h3⟩ : ∃ v, lv3 = v := ⟨_, rfl⟩
  obtain ⟨⟨x4, s4, e4⟩, h4⟩ : ∃ v, lv4 = v := ⟨_, rfl⟩
  obtain ⟨⟨x5, s5, e5⟩, h5⟩ : ∃ v, lv5 = v := ⟨_, rfl⟩
  rw [h1, h2, h3, h4, h5] at hlv
  unfold lvB at hlv
  simp only [Bool.and_eq_true, decide_eq_true_eq] at hlv
  obtain ⟨q0, q1, q2, q3, q4, q5, q6, q7, q8, q9⟩ := hlv
  subst q1; subst q2; subst q3; subst q4; subst q5; subst q6
  have g2 : putS keyR s1 [97] 4607182418800017408 [7] = (s2, 0) := by have := h2; unfold lv2 at this; rw [h1] at this; exact this
  have g3 : movS keyR s2 [97] [98] = (0, s3, 0) := by have := h3; unfold lv3 at this; rw [h2] at this; exact this
  have g4 : seeS keyR s3 [98] = (x4, s4, 0) := by have := h4; unfold lv4 at this; rw [h3] at this; exact this
  have g5 : seeS keyR s4 [97] = (x5, s5, 0) := by have := h5; unfold lv5 at this; rw [h4] at this; exact this
  have o1 : StOK keyR s1 := check_iff.1 q0
  have o2 := put_ok g2
  have o3 := mov_ok g3
  have o4 : StOK keyR s4 := by obtain ⟨o, hp, _, _, e⟩ := see_inv g4; rw [e]; exact o.read hp
  have c1 : ∀ h b, ACalls Tryd.prog 14 [.one (.p (.v (.slice none 0 0))), .one (.p (.v (.int .u64 3)))] h b 0 (fun r h' => r = .tup [.agg (SgL s1), IntV 0] ∧ h' = h) := fun h b => by
    have := sbegin_ok [] 3 (by simp) h b
    rw [show begS [] 3 = (s1, 0) from h1] at this
    exact this.argNil ⟨.nil 6, lessV.refl _, trivial⟩
  have c2 : ∀ h b, ACalls Tryd.prog 10 [.agg (SgL s1), StrV [97], FltV 4607182418800017408, OctV [7]] h b 0 (fun r h' => r = .tup [.agg (SgL s2), IntV 0] ∧ h' = h) := fun h b => by
    have := sputF_ok s1 [97] 4607182418800017408 [7] (by simp) o1.sz h b
    rwa [g2] at this
  have c3 : ∀ h b, ACalls Tryd.prog 8 [.agg (SgL s2), StrV [97], StrV [98]] h b 0 (fun r h' => r = .tup [IntV 0, .agg (SgL s3), IntV 0] ∧ h' = h) := fun h b => by
    have := smov_ok s2 [97] [98] o2.sz h b
    rwa [g3] at this
  have c4 : ∀ h b, ACalls Tryd.prog 7 [.agg (SgL s3), StrV [98]] h b 0 (fun r h' => r = .tup [.agg (EdL x4), .agg (SgL s4), IntV 0] ∧ h' = h) := fun h b => by
    have := ssee_ok s3 [98] o3.sz h b
    rwa [g4] at this
  have c5 : ∀ h b, ACalls Tryd.prog 7 [.agg (SgL s4), StrV [97]] h b 0 (fun r h' => r = .tup [.agg (EdL x5), .agg (SgL s5), IntV 0] ∧ h' = h) := fun h b => by
    have := ssee_ok s4 [97] o4.sz h b
    rwa [g5] at this
  have n7 : octE (x4.data.map encO) = some [7] := by rw [q8]; rfl
  have ho : octT Tryd.prog 30 9 = true := by kernel_rfl
  refine Rk ?_
  refine Rg (fun E K hE hK => ?_)
  refine Us (c1 _ _) body_14 ?_
  refine hK _ _ _ ?_; clear hE hK K E
  refine Rg (fun E K hE hK => ?_)
  refine CallR.use ((c2 _ _).seal (fun i => decide (i = b + 1)) (.cons (.same _) (.cons (.same _) (.cons (.same _) (.cons (.one (view_1 _ rfl (by simp) (upd_same _ _ _))) .nil))))) body_10 ?_
  rintro _ _ ⟨rfl, rfl⟩
  simp -implicitDefEqProofs only [go_sem, ↓reduceIte, Nat.reduceEqDiff, Nat.reduceAdd, Nat.reduceLT, Nat.reduceLeDiff, reduceCtorEq, Int.toNat_natCast, delP]
  refine hK _ _ _ ?_; clear hE hK K E
  refine AWP.seqReg (by kernel_rfl) (fun E K hE hK => ?_); simp -implicitDefEqProofs only [go_sem, ↓reduceIte, Nat.reduceEqDiff, Nat.reduceAdd, Nat.reduceLT, Nat.reduceLeDiff, reduceCtorEq, Int.toNat_natCast, delP]
  refine Us (c3 _ _) body_8 ?_
  try (simp -implicitDefEqProofs only [go_sem, ↓reduceIte, Nat.reduceEqDiff, Nat.reduceAdd, Nat.reduceLT, Nat.reduceLeDiff, reduceCtorEq, Int.toNat_natCast, delP])
  refine hK _ _ _ ?_; clear hE hK K E
  refine AWP.seqReg (by kernel_rfl) (fun E K hE hK => ?_); simp -implicitDefEqProofs only [go_sem, ↓reduceIte, Nat.reduceEqDiff, Nat.reduceAdd, Nat.reduceLT, Nat.reduceLeDiff, reduceCtorEq, Int.toNat_natCast, delP]
  refine Us (c4 _ _) body_7 ?_
  try (simp -implicitDefEqProofs only [go_sem, ↓reduceIte, Nat.reduceEqDiff, Nat.reduceAdd, Nat.reduceLT, Nat.reduceLeDiff, reduceCtorEq, Int.toNat_natCast, delP])
  refine hK _ _ _ ?_; clear hE hK K E
  refine AWP.seqReg (by kernel_rfl) (fun E K hE hK => ?_); simp -implicitDefEqProofs only [go_sem, ↓reduceIte, Nat.reduceEqDiff, Nat.reduceAdd, Nat.reduceLT, Nat.reduceLeDiff, reduceCtorEq, Int.toNat_natCast, delP]
  refine Us (c5 _ _) body_7 ?_
  try (simp -implicitDefEqProofs only [go_sem, ↓reduceIte, Nat.reduceEqDiff, Nat.reduceAdd, Nat.reduceLT, Nat.reduceLeDiff, reduceCtorEq, Int.toNat_natCast, delP])
  refine hK _ _ _ ?_; clear hE hK K E
  have m7 : (([7] : S) = [7]) = True := eq_true rfl
  refine Rgf (jn4 @q7 @q9 @n7 @ho) (fun E K hE hK => ?_)
  try (refine Evf @m7 ?_)
  refine hK _ _ _ ?_; clear hE hK K E
  refine AWP.ret ?_
  refine Ends.pure hn H (fun id hid => ?_) (r0 := BoolV true) (by rw [show Tryd.f5.results.toList = [.tmp 0] from rfl]; exact Er) (.v _) ⟨rfl, rfl⟩
  have hid' : id < b := hid
  simp -implicitDefEqProofs only [go_sem, ↓reduceIte, Nat.reduceEqDiff, Nat.reduceAdd, Nat.reduceLT, Nat.reduceLeDiff, reduceCtorEq, Int.toNat_natCast, delP, show ¬ id = b by omega, show ¬ id = b + 1 by omega, show ¬ id = b + 2 by omega, show ¬ id = b + 3 by omega, show ¬ id = b + 4 by omega, decide_false]
end Go.Proofs.YtihgnpboabpchaaDoor
namespace Go.Proofs.YtihgnpboabpchaaDoor
set_option linter.unusedSimpArgs false
set_option linter.unusedVariables false
set_option linter.unnecessarySimpa false
open Go Am
set_option maxRecDepth 100000
theorem see_c {s : Sg} {p : S} {x : Ed} {m : Sg} {e : Int} (z : SzS s) (hv : seeS keyR s p = (x, m, e)) (h : Heap) (b : Nat) : ACalls Tryd.prog 7 [.agg (SgL s), StrV p] h b 0 (fun r h' => r = .tup [.agg (EdL x), .agg (SgL m), IntV e] ∧ h' = h) := by
  have := ssee_ok s p z h b
  rwa [hv] at this
theorem mov_c {s : Sg} {p q : S} {how : Int} {m : Sg} {e : Int} (z : SzS s) (hv : movS keyR s p q = (how, m, e)) (h : Heap) (b : Nat) : ACalls Tryd.prog 8 [.agg (SgL s), StrV p, StrV q] h b 0 (fun r h' => r = .tup [IntV how, .agg (SgL m), IntV e] ∧ h' = h) := by
  have := smov_ok s p q z h b
  rwa [hv] at this
theorem put_c {s : Sg} {p d : S} {r : Nat} {m : Sg} {e : Int} (z : SzS s) (hd : d.length ≤ 1000000) (hv : putS keyR s p r d = (m, e)) (h : Heap) (b : Nat) : ACalls Tryd.prog 10 [.agg (SgL s), StrV p, FltV r, OctV d] h b 0 (fun v h' => v = .tup [.agg (SgL m), IntV e] ∧ h' = h) := by
  have := sputF_ok s p r d hd z h b
  rwa [hv] at this
theorem lback_ok (s : Sg) (p q d1 d2 : S) (ht : s.t.length ≤ 9223372036854775807) (hl : s.ed.length ≤ 9223372036854775807) (hn1 : s.names.length ≤ 9223372036854775807) (hd1 : s.dirs.length ≤ 9223372036854775807) (h : Heap) (b : Nat) :
    ACalls Tryd.prog 3 [SgV s, StrV p, StrV q, OctV d1, OctV d2] h b 0 (fun r h' => r = BoolV true ∧ h' = h) := by
  refine ACalls.enter Tryd.func3 rfl (by simp [Tryd.ntmps3]) (fun ι w hn H => ?_)
  have hlow := H.lowCells
  have hdl1 : (d1.map encO).length = d1.length := List.length_map _
  have hdl2 : (d2.map encO).length = d2.length := List.length_map _
  have fin : ∀ (t : Nat → AV) (hh : Heap) (n : Nat), t 10 = BoolV true → (∀ id, id < b → hh id = h id) → Am.Ends Tryd.prog ⟨Tryd.f3.ntmps, b, ι, h, w, x0⟩ Tryd.f3 0 (fun r h' => r = BoolV true ∧ h' = h) ⟨t, hh, n⟩ := by
    intro t hh n ht ho
    exact Ends.pure hn H ho (r0 := BoolV true) (by rw [show Tryd.f3.results.toList = [.tmp 10] from rfl]; exact Ecf @ht) (.v _) ⟨rfl, rfl⟩
  refine Rk ?_
  refine Rg (fun E K hE hK => ?_)
  refine Us (slive_ok _ _) body_5 ?_
  refine hK _ _ _ ?_; clear hE hK K E
  refine AWP.seq ?_
  cases c0 : fewS s
  · refine Rg (fun E K hE hK => ?_)
    refine Us (sFew_ok s ht hl hn1 hd1 _ _) body_6 ?_
    refine Evf @c0 ?_
    refine hK _ _ _ ?_; clear hE hK K E
    refine Bt ?_
    refine Rk ?_
    refine AWP.ret ?_
    refine Ev ?_
    exact fin _ _ _ (by exact Er) Ou
  have z := fewS_sz c0
  by_cases c1 : (200 : Int) < p.length
  · refine Rg (fun E K hE hK => ?_)
    refine Us (sFew_ok s ht hl hn1 hd1 _ _) body_6 ?_
    refine Evf (jn3 @c0 @mkS_size @c1) ?_
    refine hK _ _ _ ?_; clear hE hK K E
    refine Bt ?_
    refine Rk ?_
    refine AWP.ret ?_
    refine Ev ?_
    exact fin _ _ _ (by exact Er) Ou
  by_cases c2 : (200 : Int) < q.length
  · refine Rg (fun E K hE hK => ?_)
    refine Us (sFew_ok s ht hl hn1 hd1 _ _) body_6 ?_
    refine Evf (jn4 @c0 @mkS_size @c1 @c2) ?_
    refine hK _ _ _ ?_; clear hE hK K E
    refine Bt ?_
    refine Rk ?_
    refine AWP.ret ?_
    refine Ev ?_
    exact fin _ _ _ (by exact Er) Ou
  by_cases c3 : (200 : Int) < d1.length
  · refine Rg (fun E K hE hK => ?_)
    refine Us (sFew_ok s ht hl hn1 hd1 _ _) body_6 ?_
    refine Evf (jn6 @c0 @mkS_size @c1 @c2 @c3 @hdl1) ?_
    refine hK _ _ _ ?_; clear hE hK K E
    refine Bt ?_
    refine Rk ?_
    refine AWP.ret ?_
    refine Ev ?_
    exact fin _ _ _ (by exact Er) Ou
  by_cases c4 : (200 : Int) < d2.length
  · refine Rg (fun E K hE hK => ?_)
    refine Us (sFew_ok s ht hl hn1 hd1 _ _) body_6 ?_
    refine Evf (jn2 @c0 (jn7 @mkS_size @c1 @c2 @c3 @c4 @hdl1 @hdl2)) ?_
    refine hK _ _ _ ?_; clear hE hK K E
    refine Bt ?_
    refine Rk ?_
    refine AWP.ret ?_
    refine Ev ?_
    exact fin _ _ _ (by exact Er) Ou
  refine Rg (fun E K hE hK => ?_)
  refine Us (sFew_ok s ht hl hn1 hd1 _ _) body_6 ?_
  refine Evf (jn2 @c0 (jn7 @mkS_size @c1 @c2 @c3 @c4 @hdl1 @hdl2)) ?_
  refine hK _ _ _ ?_; clear hE hK K E
  refine Bs ?_
  obtain ⟨⟨x, s1, e1⟩, h1⟩ : ∃ v, seeS keyR s p = v := ⟨_, rfl⟩
  obtain ⟨⟨how, m, e2⟩, h2⟩ : ∃ v, movS keyR s p q = v := ⟨_, rfl⟩
  refine Rg (fun E K hE hK => ?_)
  refine Us (see_c z h1 _ _) body_7 ?_
  refine hK _ _ _ ?_; clear hE hK K E
  refine Rg (fun E K hE hK => ?_)
  refine Us (mov_c z h2 _ _) body_8 ?_
  refine hK _ _ _ ?_; clear hE hK K E
  obtain ⟨M, hM⟩ : ∃ M : St → Prop, M = (fun st => (∀ id, id < b → st.h id = h id) ∧ st.h b = some ⟨0, SgL s⟩ ∧ st.t 5 = .one (.ptr b 0 0) ∧ st.t 1 = StrV p ∧ st.t 3 = OctV d1 ∧ st.t 4 = OctV d2 ∧ st.t 11 = BoolV true) := ⟨_, rfl⟩
  refine AWP.midC 1 M ?_ ?_
  · have meet : ∀ (t : Nat → AV) (hh : Heap) (n : Nat), 1 ≤ n → (∀ id, id < b → hh id = h id) → hh b = some ⟨0, SgL s⟩ → t 5 = .one (.ptr b 0 0) → t 1 = StrV p → t 3 = OctV d1 → t 4 = OctV d2 → t 11 = BoolV true →
        1 ≤ n ∧ M ((⟨t, hh, n⟩ : St).cut ⟨Tryd.f3.ntmps, b, ι, h, w, x0⟩ 1) := by
      intro t hh n hn1 ho hb e5 e1 e3 e4 e11
      rw [hM]
      refine ⟨hn1, cutH_outer (Nat.le_add_right _ _) ho hlow, cutH_same (Nat.lt_succ_self _) hb (by simp [lowCs, lowC]), ?_, ?_, ?_, ?_, ?_⟩
      · show cutV (b + 1) (t 5) = _; rw [e5]; exact cutV_ptr (Nat.lt_succ_self _)
      · show cutV (b + 1) (t 1) = _; rw [e1]; rfl
      · show cutV (b + 1) (t 3) = _; rw [e3]; rfl
      · show cutV (b + 1) (t 4) = _; rw [e4]; rfl
      · show cutV (b + 1) (t 11) = _; rw [e11]; rfl
    by_cases k1 : e1 = 0
    case neg =>
      have k1' : (e1 = 0) = False := eq_false k1
      refine Rkf @k1' ?_
      refine Bf ?_
      exact AWP.skip (meet _ _ 4 (by decide) Ou (by exact Er) (by exact Er) (by exact Er) (by exact Er) (by exact Er) (by exact Er))
    subst k1
    by_cases k2 : e2 = 0
    case neg =>
      have k2' : (e2 = 0) = False := eq_false k2
      refine Rkf @k2' ?_
      refine Bf ?_
      exact AWP.skip (meet _ _ 4 (by decide) Ou (by exact Er) (by exact Er) (by exact Er) (by exact Er) (by exact Er) (by exact Er))
    subst k2
    by_cases k3 : how = 0
    case neg =>
      have k3' : (how = 0) = False := eq_false k3
      refine Rkf @k3' ?_
      refine Bf ?_
      exact AWP.skip (meet _ _ 4 (by decide) Ou (by exact Er) (by exact Er) (by exact Er) (by exact Er) (by exact Er) (by exact Er))
    subst k3
    have hlaw := back_law h1 h2
    have om := mov_ok h2
    obtain ⟨⟨how2, bk, e3⟩, h3⟩ : ∃ v, movS keyR m q p = v := ⟨_, rfl⟩
    rw [h3] at hlaw
    simp only at hlaw
    refine Rk ?_
    refine Bt ?_
    refine Rg (fun E K hE hK => ?_)
    refine Us (mov_c om.sz h3 _ _) body_8 ?_
    refine hK _ _ _ ?_; clear hE hK K E
    refine AWP.seq ?_
    rcases hlaw with k4 | ⟨k4, k5, k6, k7⟩
    · subst k4
      have d60 : ((6 : Int) = 0) = False := by decide
      refine Rkf @d60 ?_
      refine Bt ?_
      refine Rk ?_
      refine AWP.ret ?_
      refine Ev ?_
      exact fin _ _ _ (by exact Er) Ou
    subst k4; subst k5
    have ob := mov_ok h3
    obtain ⟨⟨x2, s2, e4⟩, h4⟩ : ∃ v, seeS keyR bk p = v := ⟨_, rfl⟩
    rw [h4] at k6 k7
    simp only at k6 k7
    subst k6; subst k7
    refine Rk ?_
    refine Bs ?_
    refine Rg (fun E K hE hK => ?_)
    refine Us (see_c ob.sz h4 _ _) body_7 ?_
    refine hK _ _ _ ?_; clear hE hK K E
    refine Rg (fun E K hE hK => ?_)
    refine Us (sOne_ok x2 _ _) body_9 ?_
    refine hK _ _ _ ?_; clear hE hK K E
    refine Bf ?_
    exact AWP.skip (meet _ _ 7 (by decide) (fun id (hid : id < b) => by simp -implicitDefEqProofs only [go_sem, ↓reduceIte, Nat.reduceEqDiff, Nat.reduceAdd, Nat.reduceLT, Nat.reduceLeDiff, reduceCtorEq, Int.toNat_natCast, show ¬ id = b by omega, show ¬ id = b + 1 by omega, show ¬ id = b + 2 by omega, show ¬ id = b + 3 by omega, show ¬ id = b + 4 by omega, show ¬ id = b + 5 by omega, show ¬ id = b + 6 by omega, show ¬ id = b + 7 by omega]) (by exact Er) (by exact Er) (by exact Er) (by exact Er) (by exact Er) (by exact Er))
  rintro ⟨t, hh, n⟩ hMs hn1
  rw [hM] at hMs
  obtain ⟨ho, hb, e5, e1, e3, e4, e11⟩ := hMs
  simp only at ho hb e5 e1 e3 e4 e11 hn1
  subst hn1
  obtain ⟨⟨a, e6⟩, h5⟩ : ∃ v, putS keyR s p 4607182418800017408 d1 = v := ⟨_, rfl⟩
  refine Rgf (jn4 @e5 @hb @e1 @e3) (fun E K hE hK => ?_)
  refine Us (put_c z (by omega) h5 _ _) body_10 ?_
  refine hK _ _ _ ?_; clear hE hK K E
  refine AWP.seq ?_
  by_cases k1 : e6 = 0
  case neg =>
    have k1' : (e6 = 0) = False := eq_false k1
    refine Rkf @k1' ?_
    refine Bt ?_
    refine Rkf @e11 ?_
    refine AWP.ret ?_
    refine Ev ?_
    exact fin _ _ _ (by exact Er) (Ouf @ho)
  subst k1
  refine Rk ?_
  refine Bs ?_
  obtain ⟨t1, t2, t3⟩ := twice_law (r2 := 4611686018427387904) h5 (show d2.length ≤ 65536 by omega)
  have oa := put_ok h5
  obtain ⟨⟨a2, e7⟩, h6⟩ : ∃ v, putS keyR a p 4611686018427387904 d2 = v := ⟨_, rfl⟩
  rw [h6] at t1 t2 t3
  simp only at t1 t2 t3
  subst t1
  have oa2 := put_ok h6
  refine Rgf (jn3 @e5 @e1 @e4) (fun E K hE hK => ?_)
  refine Us (put_c oa.sz (by omega) h6 _ _) body_10 ?_
  refine hK _ _ _ ?_; clear hE hK K E
  obtain ⟨⟨x3, s3, e8⟩, h7⟩ : ∃ v, seeS keyR a2 p = v := ⟨_, rfl⟩
  rw [h7] at t3
  simp only at t3
  refine Rgf @e1 (fun E K hE hK => ?_)
  refine Us (see_c oa2.sz h7 _ _) body_7 ?_
  refine hK _ _ _ ?_; clear hE hK K E
  rcases t3 with k2 | ⟨k2, k3⟩
  · subst k2
    refine Rkf @e11 ?_
    refine AWP.ret ?_
    exact fin _ _ _ (by exact Er) (Ouf @ho)
  · subst k2; subst k3
    have d06 : ((0 : Int) = 6) = False := by decide
    have dd : (d2 = d2) = True := eq_true rfl
    have hl1 : (a.ed.map encEd).length = a.ed.length := List.length_map _
    have hl2 : (a2.ed.map encEd).length = a.ed.length := by rw [List.length_map]; exact t2
    have hcn : canonE 4611686018427387904 = 4611686018427387904 := by decide +kernel
    rw [hcn] at h7 ⊢
    refine Rgf (jn3 @e11 @e4 @d06) (fun E K hE hK => ?_)
    refine Us (sSameB_ok d2 d2 _ _) body_11 ?_
    have hfe : (FloatKind.f64.format.order 4611686018427387904 4611686018427387904 == some Ordering.eq) = true := by decide +kernel
    have hfin : decide ((a2.ed.length : Int) = a.ed.length) = true := decide_eq_true (by omega)
    refine Evf (jn2 @hfe @hfin) ?_
    refine hK _ _ _ ?_; clear hE hK K E
    refine AWP.ret ?_
    exact fin _ _ _ (by exact Er) (Ouf @ho)
end Go.Proofs.YtihgnpboabpchaaDoor
