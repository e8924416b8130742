/-
  Texts of tables: plain laws; Texts of tables read: plain laws; Texts of tables: what is written is read.
-/
import Derived.Test.YthnhpbihgalgeaaDoorTbW7
namespace Go.Proofs.YthnhpbihgalgeaaDoor
set_option linter.unusedSimpArgs false
set_option linter.unusedVariables false
set_option linter.unnecessarySimpa false
open Go Am

/-- a number's octets, the lowest one first -/
def leB : Nat → Nat → S
  | 0, _ => []
  | w + 1, n => UInt8.ofNat (n % 256) :: leB w (n / 256)
/-- the number of octets -/
def unB : S → Nat
  | [] => 0
  | c :: s => c.toNat + 256 * unB s

theorem leB_len (w n : Nat) : (leB w n).length = w := by
  induction w generalizing n with
  | zero => rfl
  | succ w ih => simp [leB, ih]

theorem unB_leB (w n : Nat) : unB (leB w n) = n % 256 ^ w := by
  induction w generalizing n with
  | zero => simp [leB, unB, Nat.mod_one]
  | succ w ih =>
    simp only [leB, unB, ih]
    have h1 : (UInt8.ofNat (n % 256)).toNat = n % 256 := by simp
    rw [h1, Nat.pow_succ, Nat.mul_comm (256 ^ w) 256, Nat.mod_mul]

theorem unB_lt (s : S) : unB s < 256 ^ s.length := by
  induction s with
  | nil => simp [unB]
  | cons c s ih =>
    simp only [unB, List.length_cons, Nat.pow_succ]
    have := c.toNat_lt
    omega

theorem leB_unB (s : S) : leB s.length (unB s) = s := by
  induction s with
  | nil => rfl
  | cons c s ih =>
    have h := c.toNat_lt
    simp only [List.length_cons, leB, unB]
    have h1 : (c.toNat + 256 * unB s) % 256 = c.toNat := by omega
    have h2 : (c.toNat + 256 * unB s) / 256 = unB s := by omega
    rw [h1, h2, ih]
    simp

theorem leB_inj {w a b : Nat} (ha : a < 256 ^ w) (hb : b < 256 ^ w) (h : leB w a = leB w b) : a = b := by
  have := congrArg unB h
  rwa [unB_leB, unB_leB, Nat.mod_eq_of_lt ha, Nat.mod_eq_of_lt hb] at this

theorem leB_snoc (w n : Nat) : leB (w + 1) n = leB w n ++ [UInt8.ofNat (n / 256 ^ w % 256)] := by
  induction w generalizing n with
  | zero => simp [leB]
  | succ w ih =>
    rw [leB, ih, leB, List.cons_append]
    congr 2
    rw [Nat.div_div_eq_div_mul, Nat.pow_succ, Nat.mul_comm 256]

theorem unB_app (a b : S) : unB (a ++ b) = unB a + 256 ^ a.length * unB b := by
  induction a with
  | nil => simp [unB]
  | cons c a ih =>
    simp only [List.cons_append, unB, ih, List.length_cons, Nat.pow_succ, Nat.mul_add]
    rw [Nat.mul_comm (256 ^ a.length) 256, Nat.mul_assoc]
    omega

theorem wrap_u64 (z : Int) : IntKind.u64.wrap z = z % 18446744073709551616 := by
  simp [IntKind.wrap, IntKind.bits, IntKind.signed]
theorem wrap_u32 (z : Int) : IntKind.u32.wrap z = z % 4294967296 := by
  simp [IntKind.wrap, IntKind.bits, IntKind.signed]
theorem wrap_u8 (z : Int) : IntKind.u8.wrap z = z % 256 := by
  simp [IntKind.wrap, IntKind.bits, IntKind.signed]

/-! ### files and tables -/
def fileB (f : Fl) : S := leB 1 f.name.length ++ (f.name ++ (leB 8 (keyR f.rank).toNat ++ (leB 4 f.sum.toNat ++ (leB 2 f.blk.toNat ++ (leB 3 f.frm.toNat ++ leB 3 f.len.toNat)))))
def filesB : List Fl → S
  | [] => []
  | f :: l => fileB f ++ filesB l
def tableB (l : List Fl) : S := leB 2 l.length ++ filesB l
def bytesR (l : List Fl) : S × Int := if checkT l = 0 then (tableB l, 0) else ([], checkT l)
def oneB (f : Fl) : S × Int := if checkT [f] = 0 then (fileB f, 0) else ([], checkT [f])

theorem fileB_len (f : Fl) : (fileB f).length = 21 + f.name.length := by
  simp only [fileB, List.length_append, leB_len]; omega
theorem filesB_app (a b : List Fl) : filesB (a ++ b) = filesB a ++ filesB b := by
  induction a with
  | nil => rfl
  | cons f a ih => simp [filesB, ih]
theorem filesB_snoc (l : List Fl) (i : Nat) (h : i < l.length) : filesB (l.take (i + 1)) = filesB (l.take i) ++ fileB l[i] := by
  rw [List.take_add_one, filesB_app, List.getElem?_eq_getElem h]; simp [filesB]

theorem app_inj {a b c d : S} (h : a ++ b = c ++ d) (hl : a.length = c.length) : a = c ∧ b = d := List.append_inj h hl

theorem keyR_bd (x : Nat) : 0 ≤ keyR x ∧ keyR x < 18446744073709551616 := by
  have hw : ∀ z : Int, 0 ≤ IntKind.u64.wrap z ∧ IntKind.u64.wrap z < 18446744073709551616 := by
    intro z
    rw [wrap_u64]; omega
  unfold keyR
  split
  · decide
  · split <;> exact hw _

structure FlBd (f : Fl) : Prop where
  may : mayF f = true
  sum : 0 ≤ f.sum ∧ f.sum < 4294967296

theorem pow8 : 256 ^ 8 = 18446744073709551616 := by decide
theorem chk_len {p : S} (h : chkN p = 0) : p.length ≤ 96 := (chkN_zero.1 h).1

theorem mayF_bd {f : Fl} (h : mayF f = true) : (0 ≤ f.blk ∧ f.blk ≤ 8192) ∧ (0 ≤ f.frm ∧ f.frm ≤ 65536) ∧ (0 ≤ f.len ∧ f.len ≤ 65536) ∧ f.name.length ≤ 96 ∧ chkN f.name = 0 := by
  unfold mayF at h
  simp only [Bool.and_eq_true, decide_eq_true_eq] at h
  have := chk_len h.2.2.2.2.2.2
  exact ⟨⟨h.1, h.2.1⟩, ⟨h.2.2.1, h.2.2.2.1⟩, ⟨h.2.2.2.2.1, by omega⟩, this, h.2.2.2.2.2.2⟩

/-- a file's text tells it, and what stands behind -/
theorem fileB_inj {f g : Fl} {u v : S} (hf : FlBd f) (hg : FlBd g) (h : fileB f ++ u = fileB g ++ v) : sameX keyR f g = true ∧ u = v := by
  obtain ⟨f1, f2, f3, f4, _⟩ := mayF_bd hf.may
  obtain ⟨g1, g2, g3, g4, _⟩ := mayF_bd hg.may
  have k1 := keyR_bd f.rank
  have k2 := keyR_bd g.rank
  have s1 := hf.sum
  have s2 := hg.sum
  simp only [fileB, List.append_assoc] at h
  obtain ⟨e1, h⟩ := app_inj h (by rw [leB_len, leB_len])
  have n1 := leB_inj (by omega) (by omega) e1
  obtain ⟨e2, h⟩ := app_inj h n1
  obtain ⟨e3, h⟩ := app_inj h (by rw [leB_len, leB_len])
  have n3 := leB_inj (by rw [pow8]; omega) (by rw [pow8]; omega) e3
  obtain ⟨e4, h⟩ := app_inj h (by rw [leB_len, leB_len])
  have n4 := leB_inj (by omega) (by omega) e4
  obtain ⟨e5, h⟩ := app_inj h (by rw [leB_len, leB_len])
  have n5 := leB_inj (by omega) (by omega) e5
  obtain ⟨e6, h⟩ := app_inj h (by rw [leB_len, leB_len])
  have n6 := leB_inj (by omega) (by omega) e6
  obtain ⟨e7, h⟩ := app_inj h (by rw [leB_len, leB_len])
  have n7 := leB_inj (by omega) (by omega) e7
  refine ⟨?_, h⟩
  unfold sameX
  simp only [Bool.and_eq_true, decide_eq_true_eq]
  exact ⟨e2, by omega, by omega, by omega, by omega, by omega⟩

theorem fileB_same {f g : Fl} (h : sameX keyR f g = true) : fileB f = fileB g := by
  unfold sameX at h
  simp only [Bool.and_eq_true, decide_eq_true_eq] at h
  obtain ⟨h1, h2, h3, h4, h5, h6⟩ := h
  unfold fileB
  rw [h1, h2, h3, h4, h5, h6]

theorem filesB_same : ∀ {l m : List Fl}, sameL keyR l m = true → filesB l = filesB m ∧ l.length = m.length
  | [], [], _ => ⟨rfl, rfl⟩
  | [], _ :: _, h => by cases h
  | _ :: _, [], h => by cases h
  | f :: l, g :: m, h => by
    have h' : (sameX keyR f g && sameL keyR l m) = true := h
    rw [Bool.and_eq_true] at h'
    obtain ⟨e1, e2⟩ := filesB_same h'.2
    exact ⟨by unfold filesB; rw [fileB_same h'.1, e1], by simp [e2]⟩

theorem filesB_inj : ∀ {l m : List Fl} {u v : S}, (∀ f ∈ l, FlBd f) → (∀ f ∈ m, FlBd f) → l.length = m.length → filesB l ++ u = filesB m ++ v → sameL keyR l m = true ∧ u = v
  | [], [], u, v, _, _, _, h => ⟨rfl, h⟩
  | [], _ :: _, _, _, _, _, hl, _ => by simp at hl
  | _ :: _, [], _, _, _, _, hl, _ => by simp at hl
  | f :: l, g :: m, u, v, hf, hg, hl, h => by
    simp only [filesB, List.append_assoc] at h
    obtain ⟨e1, h⟩ := fileB_inj (hf f (by simp)) (hg g (by simp)) h
    obtain ⟨e2, h⟩ := filesB_inj (fun x hx => hf x (by simp [hx])) (fun x hx => hg x (by simp [hx])) (by simpa using hl) h
    refine ⟨?_, h⟩
    show (sameX keyR f g && sameL keyR l m) = true
    rw [e1, e2]; rfl

theorem tableB_iff {l m : List Fl} (hl : ∀ f ∈ l, FlBd f) (hm : ∀ f ∈ m, FlBd f) (h1 : l.length ≤ 256) (h2 : m.length ≤ 256) : tableB l = tableB m ↔ sameL keyR l m = true := by
  constructor
  · intro h
    unfold tableB at h
    obtain ⟨e1, h⟩ := app_inj h (by rw [leB_len, leB_len])
    have n1 := leB_inj (by omega) (by omega) e1
    exact (filesB_inj (u := []) (v := []) hl hm n1 (by simpa using h)).1
  · intro h
    obtain ⟨e1, e2⟩ := filesB_same h
    unfold tableB; rw [e1, e2]

theorem check_bd {l : List Fl} (h : checkT l = 0) (hs : ∀ f ∈ l, 0 ≤ f.sum ∧ f.sum < 4294967296) : (∀ f ∈ l, FlBd f) ∧ l.length ≤ 256 := by
  obtain ⟨h1, h2⟩ := checkT_zero.1 h
  exact ⟨fun f hf => ⟨tabF_may h2 f hf, hs f hf⟩, h1⟩

theorem checkT_one (f : Fl) : checkT [f] = if mayF f = true then 0 else 1 := by
  unfold checkT
  rw [if_neg (by simp)]
  unfold tabF tabF aheadF
  cases mayF f <;> simp

end Go.Proofs.YthnhpbihgalgeaaDoor

namespace Go.Proofs.YthnhpbihgalgeaaDoor
set_option linter.unusedSimpArgs false
set_option linter.unusedVariables false
set_option linter.unnecessarySimpa false
open Go Am

def nanF (x : Nat) : Bool := FloatKind.f64.format.order x x != some .eq
def nanV : Nat := 9221120237041090561
/-- the number of a key -/
def ofN (k : Nat) : Nat := if 9223372036854775808 ≤ k then k - 9223372036854775808 else 18446744073709551615 - k
def ofR (k : Nat) : Nat × Int := if k = 18446744073709551615 then (nanV, 0) else if nanF (ofN k) = true then (0, 2) else (ofN k, 0)

def rdB (n : Nat) (s : S) : Option (S × S) := if n ≤ s.length then some (s.take n, s.drop n) else none
/-- a file, and what stands behind -/
def readF (s : S) : Option (Fl × S) :=
  (rdB 1 s).bind fun a => (rdB (unB a.1) a.2).bind fun nm => (rdB 8 nm.2).bind fun k => if (ofR (unB k.1)).2 ≠ 0 then none else
    (rdB 4 k.2).bind fun su => (rdB 2 su.2).bind fun bk => (rdB 3 bk.2).bind fun fr => (rdB 3 fr.2).bind fun ln =>
      some (⟨nm.1, (ofR (unB k.1)).1, unB su.1, unB bk.1, unB fr.1, unB ln.1⟩, ln.2)
def readN : Nat → S → Option (List Fl × S)
  | 0, s => some ([], s)
  | n + 1, s => (readF s).bind fun a => (readN n a.2).map fun r => (a.1 :: r.1, r.2)
def readT (s : S) : Option (List Fl) := (rdB 2 s).bind fun a => (readN (unB a.1) a.2).map (·.1)
def fromR (b : S) : List Fl × Int := if 65536 < b.length then ([], 3) else match readT b with
  | none => ([], 2)
  | some l => if bytesR l = (b, 0) then (l, 0) else ([], 2)

theorem rdB_app {n : Nat} {a u : S} (h : a.length = n) : rdB n (a ++ u) = some (a, u) := by
  unfold rdB
  rw [if_pos (by simp; omega)]
  subst h; simp
theorem rdB_some {n : Nat} {s a u : S} (h : rdB n s = some (a, u)) : s = a ++ u ∧ a.length = n := by
  unfold rdB at h
  split at h
  · rename_i hl
    injection h with h
    injection h with h1 h2
    subst h1; subst h2
    exact ⟨(List.take_append_drop _ _).symm, by rw [List.length_take]; omega⟩
  · cases h

theorem nan_lit : nanF nanV = true := by decide
theorem nan_zero : nanF 0 = false := by decide

/-- the same rank, of one kind alone -/
def canR (x : Nat) : Nat := if nanF x = true then nanV else x
def canF (f : Fl) : Fl := { f with rank := canR f.rank }

theorem keyD_def (x : Nat) : keyD x = if nanF x = true then 18446744073709551615 else if (x : Int) < 9223372036854775808 then IntKind.u64.wrap ((x : Int) + 9223372036854775808) else IntKind.u64.wrap (18446744073709551615 - (x : Int)) := rfl
theorem keyD_num {x : Nat} (hx : x < 18446744073709551616) : keyD x = if nanF x = true then 18446744073709551615 else if x < 9223372036854775808 then (x : Int) + 9223372036854775808 else 18446744073709551615 - (x : Int) := by
  rw [keyD_def]
  split
  · rfl
  · split
    · rename_i h; rw [if_pos (by omega), wrap_u64]; omega
    · rename_i h; rw [if_neg (by omega), wrap_u64]; omega

theorem nan_bounds {x : Nat} (hx : x < 18446744073709551616) (h : nanF x = false) : keyD x ≠ 18446744073709551615 := by
  rw [keyD_num hx, h, if_neg (by decide)]
  split
  · rename_i h1
    intro e
    have : x = 9223372036854775807 := by omega
    subst this
    exact absurd h (by decide)
  · rename_i h1
    intro e
    have : x = 0 := by omega
    subst this; omega

theorem ofR_key {x : Nat} (hx : x < 18446744073709551616) : ofR (keyR x).toNat = (canR x, 0) := by
  rw [key_eq x hx]
  unfold ofR canR
  cases hn : nanF x
  · have h1 := nan_bounds hx hn
    have h2 := keyD_num hx
    rw [hn, if_neg (by decide)] at h2
    have h3 : ofN (keyD x).toNat = x := by
      unfold ofN
      rw [h2]
      split <;> split <;> omega
    rw [if_neg (by rw [h2] at h1 ⊢; split at h1 <;> omega), h3, hn]; rfl
  · have h2 := keyD_num hx
    rw [hn, if_pos rfl] at h2
    rw [h2]; rfl

theorem ofN_lt {k : Nat} (hk : k < 18446744073709551616) : ofN k < 18446744073709551616 := by unfold ofN; split <;> omega
theorem keyR_of {k : Nat} (hk : k < 18446744073709551616) (h : (ofR k).2 = 0) : keyR (ofR k).1 = (k : Int) ∧ (ofR k).1 < 18446744073709551616 := by
  unfold ofR at h ⊢
  split
  · rename_i h1
    subst h1
    exact ⟨by rw [key_eq _ (by decide)]; decide, by decide⟩
  · rename_i h1
    rw [if_neg h1] at h
    split at h
    · exact absurd h (by decide)
    · rename_i h2
      rw [if_neg h2]
      have h2' : nanF (ofN k) = false := by simpa using h2
      refine ⟨?_, ofN_lt hk⟩
      rw [key_eq _ (ofN_lt hk), keyD_num (ofN_lt hk), h2', if_neg (by decide)]
      unfold ofN
      split <;> split <;> omega

theorem sameX_can {f : Fl} (hx : f.rank < 18446744073709551616) : sameX keyR (canF f) f = true := by
  have h1 := ofR_key hx
  have hb := keyR_bd f.rank
  have h2 := keyR_of (k := (keyR f.rank).toNat) (by omega) (by rw [h1])
  rw [h1] at h2
  have h3 : keyR (canR f.rank) = keyR f.rank := by rw [h2.1]; omega
  unfold sameX canF
  simp [h3]

structure FlBdR (f : Fl) : Prop extends FlBd f where
  rank : f.rank < 18446744073709551616

theorem readF_file {f : Fl} (hf : FlBdR f) (u : S) : readF (fileB f ++ u) = some (canF f, u) := by
  obtain ⟨f1, f2, f3, f4, _⟩ := mayF_bd hf.may
  have k1 := keyR_bd f.rank
  have s1 := hf.sum
  have hk : unB (leB 8 (keyR f.rank).toNat) = (keyR f.rank).toNat := by rw [unB_leB, Nat.mod_eq_of_lt (by rw [pow8]; omega)]
  have hn : unB (leB 1 f.name.length) = f.name.length := by rw [unB_leB, Nat.mod_eq_of_lt (by omega)]
  unfold readF fileB
  simp only [List.append_assoc]
  rw [rdB_app (leB_len _ _)]
  simp only [Option.bind_some, hn]
  rw [rdB_app rfl]
  simp only [Option.bind_some]
  rw [rdB_app (leB_len _ _)]
  simp only [Option.bind_some, hk, ofR_key hf.rank]
  rw [if_neg (by decide), rdB_app (leB_len _ _)]
  simp only [Option.bind_some]
  rw [rdB_app (leB_len _ _)]
  simp only [Option.bind_some]
  rw [rdB_app (leB_len _ _)]
  simp only [Option.bind_some]
  rw [rdB_app (leB_len _ _)]
  simp only [Option.bind_some]
  have a1 : unB (leB 4 f.sum.toNat) = f.sum.toNat := by rw [unB_leB, Nat.mod_eq_of_lt (by omega)]
  have a2 : unB (leB 2 f.blk.toNat) = f.blk.toNat := by rw [unB_leB, Nat.mod_eq_of_lt (by omega)]
  have a3 : unB (leB 3 f.frm.toNat) = f.frm.toNat := by rw [unB_leB, Nat.mod_eq_of_lt (by omega)]
  have a4 : unB (leB 3 f.len.toNat) = f.len.toNat := by rw [unB_leB, Nat.mod_eq_of_lt (by omega)]
  rw [a1, a2, a3, a4]
  have b1 : ((f.sum.toNat : Nat) : Int) = f.sum := by omega
  have b2 : ((f.blk.toNat : Nat) : Int) = f.blk := by omega
  have b3 : ((f.frm.toNat : Nat) : Int) = f.frm := by omega
  have b4 : ((f.len.toNat : Nat) : Int) = f.len := by omega
  rw [b1, b2, b3, b4]; rfl

theorem readN_files {l : List Fl} (hl : ∀ f ∈ l, FlBdR f) (u : S) : readN l.length (filesB l ++ u) = some (l.map canF, u) := by
  induction l with
  | nil => rfl
  | cons f l ih =>
    simp only [List.length_cons, readN, filesB, List.append_assoc]
    rw [readF_file (hl f (by simp))]
    simp only [Option.bind_some]
    rw [ih (fun x hx => hl x (by simp [hx]))]; rfl

theorem readT_table {l : List Fl} (hl : ∀ f ∈ l, FlBdR f) (h : l.length ≤ 256) (u : S) : readT (tableB l ++ u) = some (l.map canF) := by
  unfold readT tableB
  rw [List.append_assoc, rdB_app (leB_len _ _)]
  simp only [Option.bind_some]
  rw [unB_leB, Nat.mod_eq_of_lt (by omega), readN_files hl]; rfl

/-- what is read, is in bounds -/
theorem readF_bd {s u : S} {f : Fl} (h : readF s = some (f, u)) : (0 ≤ f.sum ∧ f.sum < 4294967296) ∧ f.rank < 18446744073709551616 ∧ u.length < s.length ∧ f.name.length < 256 := by
  unfold readF at h
  simp only [Option.bind_eq_some_iff] at h
  obtain ⟨⟨a, s1⟩, h1, ⟨nm, s2⟩, h2, ⟨k, s3⟩, h3, h⟩ := h
  split at h
  · cases h
  · rename_i he
    simp only [Option.bind_eq_some_iff] at h
    obtain ⟨⟨su, s4⟩, h4, ⟨bk, s5⟩, h5, ⟨fr, s6⟩, h6, ⟨ln, s7⟩, h7, h⟩ := h
    injection h with h
    injection h with e1 e2
    subst e1; subst e2
    obtain ⟨rfl, l1⟩ := rdB_some h1
    obtain ⟨q2, l2⟩ := rdB_some h2
    obtain ⟨q3, l3⟩ := rdB_some h3
    obtain ⟨q4, l4⟩ := rdB_some h4
    obtain ⟨q5, l5⟩ := rdB_some h5
    obtain ⟨q6, l6⟩ := rdB_some h6
    obtain ⟨q7, l7⟩ := rdB_some h7
    simp only at q2 l2 q3 l3 q4 l4 q5 l5 q6 l6 q7 l7 he ⊢
    have hk := unB_lt k
    rw [l3, pow8] at hk
    have hsu := unB_lt su
    rw [l4] at hsu
    have hnm := unB_lt a
    rw [l1] at hnm
    refine ⟨⟨by omega, by omega⟩, (keyR_of hk (by simpa using he)).2, ?_, by omega⟩
    rw [q2, q3, q4, q5, q6, q7]
    simp only [List.length_append, l1, l3, l4]
    omega
theorem readN_bd : ∀ {n : Nat} {s u : S} {l : List Fl}, readN n s = some (l, u) → (∀ f ∈ l, (0 ≤ f.sum ∧ f.sum < 4294967296) ∧ f.rank < 18446744073709551616 ∧ f.name.length < 256) ∧ l.length = n ∧ l.length + u.length ≤ s.length
  | 0, s, u, l, h => by
    unfold readN at h; injection h with h; injection h with h1 h2; subst h1; subst h2
    simp
  | n + 1, s, u, l, h => by
    unfold readN at h
    simp only [Option.bind_eq_some_iff, Option.map_eq_some_iff] at h
    obtain ⟨⟨f, s1⟩, h1, ⟨r, s2⟩, h2, h⟩ := h
    injection h with h3 h4
    subst h3; subst h4
    obtain ⟨b1, b2, b3, b4⟩ := readF_bd h1
    obtain ⟨c1, c2, c3⟩ := readN_bd h2
    refine ⟨fun x hx => ?_, by simp [c2], by simp only [List.length_cons] at *; omega⟩
    rcases List.mem_cons.1 hx with rfl | hx
    · exact ⟨b1, b2, b4⟩
    · exact c1 x hx
theorem readT_bd {s : S} {l : List Fl} (h : readT s = some l) : (∀ f ∈ l, (0 ≤ f.sum ∧ f.sum < 4294967296) ∧ f.rank < 18446744073709551616 ∧ f.name.length < 256) ∧ l.length ≤ s.length := by
  unfold readT at h
  simp only [Option.bind_eq_some_iff, Option.map_eq_some_iff] at h
  obtain ⟨⟨a, s1⟩, h1, ⟨r, s2⟩, h2, rfl⟩ := h
  obtain ⟨c1, c2, c3⟩ := readN_bd h2
  obtain ⟨rfl, l1⟩ := rdB_some h1
  refine ⟨c1, ?_⟩
  simp only [List.length_append] at c3 ⊢
  omega

end Go.Proofs.YthnhpbihgalgeaaDoor

namespace Go.Proofs.YthnhpbihgalgeaaDoor
set_option linter.unusedSimpArgs false
set_option linter.unusedVariables false
set_option linter.unnecessarySimpa false
open Go Am

theorem canF_name (f : Fl) : (canF f).name = f.name := rfl
theorem mayF_can (f : Fl) : mayF (canF f) = mayF f := rfl
theorem tabF_can : ∀ (q : Option S) (l : List Fl), tabF q (l.map canF) = tabF q l
  | _, [] => rfl
  | q, f :: l => by
    show (mayF (canF f) && (aheadF q (canF f).name && tabF (some (canF f).name) (l.map canF))) = (mayF f && (aheadF q f.name && tabF (some f.name) l))
    rw [tabF_can (some (canF f).name) l]; rfl
theorem checkT_can (l : List Fl) : checkT (l.map canF) = checkT l := by unfold checkT; rw [tabF_can, List.length_map]
theorem sameL_can : ∀ {l : List Fl}, (∀ f ∈ l, f.rank < 18446744073709551616) → sameL keyR (l.map canF) l = true
  | [], _ => rfl
  | f :: l, h => by
    show (sameX keyR (canF f) f && sameL keyR (l.map canF) l) = true
    rw [sameX_can (h f (by simp)), sameL_can (fun x hx => h x (by simp [hx]))]; rfl
theorem tableB_can {l : List Fl} (h : ∀ f ∈ l, f.rank < 18446744073709551616) : tableB (l.map canF) = tableB l := by
  obtain ⟨e1, e2⟩ := filesB_same (sameL_can h)
  unfold tableB; rw [e1, e2]
theorem checkT_len {l : List Fl} (h : checkT l = 0) : l.length ≤ 256 := (checkT_zero.1 h).1
theorem bdR_of {l : List Fl} (h : checkT l = 0) (hs : ∀ f ∈ l, 0 ≤ f.sum ∧ f.sum < 4294967296) (hr : ∀ f ∈ l, f.rank < 18446744073709551616) : ∀ f ∈ l, FlBdR f :=
  fun f hf => ⟨(check_bd h hs).1 f hf, hr f hf⟩
theorem filesB_size {l : List Fl} (h : ∀ f ∈ l, FlBdR f) : (filesB l).length ≤ 117 * l.length := by
  induction l with
  | nil => simp [filesB]
  | cons f l ih =>
    have h1 := (mayF_bd (h f (by simp)).may).2.2.2.1
    have h2 := ih (fun x hx => h x (by simp [hx]))
    have h3 := fileB_len f
    simp only [filesB, List.length_append, List.length_cons] at *
    omega
theorem tableB_size {l : List Fl} (h : ∀ f ∈ l, FlBdR f) (hl : l.length ≤ 256) : (tableB l).length ≤ 2 + 117 * l.length := by
  have := filesB_size h
  unfold tableB
  rw [List.length_append, leB_len]; omega

theorem fromR_sound {s : S} (h : (fromR s).2 = 0) : checkT (fromR s).1 = 0 ∧ tableB (fromR s).1 = s ∧ (∀ f ∈ (fromR s).1, FlBdR f) := by
  unfold fromR at h ⊢
  split at h
  · exact absurd h (by decide)
  · rename_i h1
    rw [if_neg h1]
    cases hT : readT s with
    | none => rw [hT] at h; exact absurd h (show ¬ (2 : Int) = 0 by decide)
    | some l =>
      rw [hT] at h
      simp only at h ⊢
      split at h
      · rename_i h2
        rw [if_pos h2]
        obtain ⟨hb, _⟩ := readT_bd hT
        unfold bytesR at h2
        split at h2
        · rename_i h3
          exact ⟨h3, (Prod.mk.inj h2).1, bdR_of h3 (fun f hf => (hb f hf).1) (fun f hf => (hb f hf).2.1)⟩
        · rename_i h3; exact absurd (Prod.mk.inj h2).2 h3
      · exact absurd h (by decide)
theorem fromR_bad {s : S} (hs : s.length ≤ 65536) (h : (fromR s).2 ≠ 0) : fromR s = ([], 2) := by
  unfold fromR at h ⊢
  rw [if_neg (by omega)] at h ⊢
  cases hT : readT s with
  | none => rfl
  | some l =>
    rw [hT] at h
    simp only at h ⊢
    split at h
    · exact absurd rfl h
    · rename_i h2; rw [if_neg h2]

theorem fromR_more {l : List Fl} (hl : ∀ f ∈ l, FlBdR f) (hc : checkT l = 0) (m : S) (hm : (tableB l ++ m).length ≤ 65536) : fromR (tableB l ++ m) = if m = [] then (l.map canF, 0) else ([], 2) := by
  have hT := readT_table hl (checkT_len hc) m
  unfold fromR
  rw [if_neg (by omega), hT]
  simp only
  have hb : bytesR (l.map canF) = (tableB l, 0) := by unfold bytesR; rw [checkT_can, if_pos hc, tableB_can (fun f hf => (hl f hf).rank)]
  rw [hb]
  by_cases h : m = []
  · subst h; simp
  · rw [if_neg h, if_neg]
    intro e
    have := (Prod.mk.inj e).1
    exact h (by simpa using this)
theorem fromR_table {l : List Fl} (hl : ∀ f ∈ l, FlBdR f) (hc : checkT l = 0) : fromR (tableB l) = (l.map canF, 0) := by
  have h1 := tableB_size hl (checkT_len hc)
  have h2 := checkT_len hc
  have := fromR_more hl hc [] (by rw [List.append_nil]; omega)
  rwa [List.append_nil, if_pos rfl] at this
theorem fromR_cut {l : List Fl} (hl : ∀ f ∈ l, FlBdR f) (hc : checkT l = 0) {k : Nat} (hk : k < (tableB l).length) : fromR ((tableB l).take k) = ([], 2) := by
  have h1 := tableB_size hl (checkT_len hc)
  have h2 := checkT_len hc
  refine fromR_bad (by rw [List.length_take]; omega) (fun e => ?_)
  obtain ⟨c1, c2, c3⟩ := fromR_sound e
  generalize (fromR ((tableB l).take k)).1 = l' at c1 c2 c3
  have g1 := readT_table c3 (checkT_len c1) ((tableB l).drop k)
  rw [c2, List.take_append_drop] at g1
  have g2 := readT_table hl (checkT_len hc) []
  rw [List.append_nil, g1] at g2
  have g3 := congrArg tableB (Option.some.inj g2)
  rw [tableB_can (fun f hf => (c3 f hf).rank), tableB_can (fun f hf => (hl f hf).rank), c2] at g3
  have := congrArg List.length g3
  rw [List.length_take] at this
  omega
def longR (l : List Fl) : Int × Int := if checkT l = 0 then (((tableB l).length : Nat), 0) else (0, checkT l)
end Go.Proofs.YthnhpbihgalgeaaDoor
