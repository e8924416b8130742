/-
  Texts of tables: plain laws.
-/
import Derived.Test.YthnhpbihgalgeaaDoorTbW7
namespace Go.Proofs.YthnhpbihgalgeaaDoor
set_option linter.unusedSimpArgs false
set_option linter.unusedVariables false
set_option linter.unnecessarySimpa false
open Go Am

/-- a number's octets, the lowest one first -/
def leB : Nat → Nat → S
  | 0, _ => []
  | w + 1, n => UInt8.ofNat (n % 256) :: leB w (n / 256)
/-- the number of octets -/
def unB : S → Nat
  | [] => 0
  | c :: s => c.toNat + 256 * unB s

theorem leB_len (w n : Nat) : (leB w n).length = w := by
  induction w generalizing n with
  | zero => rfl
  | succ w ih => simp [leB, ih]

theorem unB_leB (w n : Nat) : unB (leB w n) = n % 256 ^ w := by
  induction w generalizing n with
  | zero => simp [leB, unB, Nat.mod_one]
  | succ w ih =>
    simp only [leB, unB, ih]
    have h1 : (UInt8.ofNat (n % 256)).toNat = n % 256 := by simp
    rw [h1, Nat.pow_succ, Nat.mul_comm (256 ^ w) 256, Nat.mod_mul]

theorem unB_lt (s : S) : unB s < 256 ^ s.length := by
  induction s with
  | nil => simp [unB]
  | cons c s ih =>
    simp only [unB, List.length_cons, Nat.pow_succ]
    have := c.toNat_lt
    omega

theorem leB_unB (s : S) : leB s.length (unB s) = s := by
  induction s with
  | nil => rfl
  | cons c s ih =>
    have h := c.toNat_lt
    simp only [List.length_cons, leB, unB]
    have h1 : (c.toNat + 256 * unB s) % 256 = c.toNat := by omega
    have h2 : (c.toNat + 256 * unB s) / 256 = unB s := by omega
    rw [h1, h2, ih]
    simp

theorem leB_inj {w a b : Nat} (ha : a < 256 ^ w) (hb : b < 256 ^ w) (h : leB w a = leB w b) : a = b := by
  have := congrArg unB h
  rwa [unB_leB, unB_leB, Nat.mod_eq_of_lt ha, Nat.mod_eq_of_lt hb] at this

theorem leB_snoc (w n : Nat) : leB (w + 1) n = leB w n ++ [UInt8.ofNat (n / 256 ^ w % 256)] := by
  induction w generalizing n with
  | zero => simp [leB]
  | succ w ih =>
    rw [leB, ih, leB, List.cons_append]
    congr 2
    rw [Nat.div_div_eq_div_mul, Nat.pow_succ, Nat.mul_comm 256]

theorem unB_app (a b : S) : unB (a ++ b) = unB a + 256 ^ a.length * unB b := by
  induction a with
  | nil => simp [unB]
  | cons c a ih =>
    simp only [List.cons_append, unB, ih, List.length_cons, Nat.pow_succ, Nat.mul_add]
    rw [Nat.mul_comm (256 ^ a.length) 256, Nat.mul_assoc]
    omega

theorem wrap_u64 (z : Int) : IntKind.u64.wrap z = z % 18446744073709551616 := by
  simp [IntKind.wrap, IntKind.bits, IntKind.signed]
theorem wrap_u32 (z : Int) : IntKind.u32.wrap z = z % 4294967296 := by
  simp [IntKind.wrap, IntKind.bits, IntKind.signed]
theorem wrap_u8 (z : Int) : IntKind.u8.wrap z = z % 256 := by
  simp [IntKind.wrap, IntKind.bits, IntKind.signed]

/-! ### files and tables -/
def fileB (f : Fl) : S := leB 1 f.name.length ++ (f.name ++ (leB 8 (keyR f.rank).toNat ++ (leB 4 f.sum.toNat ++ (leB 2 f.blk.toNat ++ (leB 3 f.frm.toNat ++ leB 3 f.len.toNat)))))
def filesB : List Fl → S
  | [] => []
  | f :: l => fileB f ++ filesB l
def tableB (l : List Fl) : S := leB 2 l.length ++ filesB l
def bytesR (l : List Fl) : S × Int := if checkT l = 0 then (tableB l, 0) else ([], checkT l)
def oneB (f : Fl) : S × Int := if checkT [f] = 0 then (fileB f, 0) else ([], checkT [f])

theorem fileB_len (f : Fl) : (fileB f).length = 21 + f.name.length := by
  simp only [fileB, List.length_append, leB_len]; omega
theorem filesB_app (a b : List Fl) : filesB (a ++ b) = filesB a ++ filesB b := by
  induction a with
  | nil => rfl
  | cons f a ih => simp [filesB, ih]
theorem filesB_snoc (l : List Fl) (i : Nat) (h : i < l.length) : filesB (l.take (i + 1)) = filesB (l.take i) ++ fileB l[i] := by
  rw [List.take_add_one, filesB_app, List.getElem?_eq_getElem h]; simp [filesB]

theorem app_inj {a b c d : S} (h : a ++ b = c ++ d) (hl : a.length = c.length) : a = c ∧ b = d := List.append_inj h hl

theorem keyR_bd (x : Nat) : 0 ≤ keyR x ∧ keyR x < 18446744073709551616 := by
  have hw : ∀ z : Int, 0 ≤ IntKind.u64.wrap z ∧ IntKind.u64.wrap z < 18446744073709551616 := by
    intro z
    rw [wrap_u64]; omega
  unfold keyR
  split
  · decide
  · split <;> exact hw _

structure FlBd (f : Fl) : Prop where
  may : mayF f = true
  sum : 0 ≤ f.sum ∧ f.sum < 4294967296

theorem pow8 : 256 ^ 8 = 18446744073709551616 := by decide
theorem chk_len {p : S} (h : chkN p = 0) : p.length ≤ 96 := (chkN_zero.1 h).1

theorem mayF_bd {f : Fl} (h : mayF f = true) : (0 ≤ f.blk ∧ f.blk ≤ 8192) ∧ (0 ≤ f.frm ∧ f.frm ≤ 65536) ∧ (0 ≤ f.len ∧ f.len ≤ 65536) ∧ f.name.length ≤ 96 ∧ chkN f.name = 0 := by
  unfold mayF at h
  simp only [Bool.and_eq_true, decide_eq_true_eq] at h
  have := chk_len h.2.2.2.2.2.2
  exact ⟨⟨h.1, h.2.1⟩, ⟨h.2.2.1, h.2.2.2.1⟩, ⟨h.2.2.2.2.1, by omega⟩, this, h.2.2.2.2.2.2⟩

/-- a file's text tells it, and what stands behind -/
theorem fileB_inj {f g : Fl} {u v : S} (hf : FlBd f) (hg : FlBd g) (h : fileB f ++ u = fileB g ++ v) : sameX keyR f g = true ∧ u = v := by
  obtain ⟨f1, f2, f3, f4, _⟩ := mayF_bd hf.may
  obtain ⟨g1, g2, g3, g4, _⟩ := mayF_bd hg.may
  have k1 := keyR_bd f.rank
  have k2 := keyR_bd g.rank
  have s1 := hf.sum
  have s2 := hg.sum
  simp only [fileB, List.append_assoc] at h
  obtain ⟨e1, h⟩ := app_inj h (by rw [leB_len, leB_len])
  have n1 := leB_inj (by omega) (by omega) e1
  obtain ⟨e2, h⟩ := app_inj h n1
  obtain ⟨e3, h⟩ := app_inj h (by rw [leB_len, leB_len])
  have n3 := leB_inj (by rw [pow8]; omega) (by rw [pow8]; omega) e3
  obtain ⟨e4, h⟩ := app_inj h (by rw [leB_len, leB_len])
  have n4 := leB_inj (by omega) (by omega) e4
  obtain ⟨e5, h⟩ := app_inj h (by rw [leB_len, leB_len])
  have n5 := leB_inj (by omega) (by omega) e5
  obtain ⟨e6, h⟩ := app_inj h (by rw [leB_len, leB_len])
  have n6 := leB_inj (by omega) (by omega) e6
  obtain ⟨e7, h⟩ := app_inj h (by rw [leB_len, leB_len])
  have n7 := leB_inj (by omega) (by omega) e7
  refine ⟨?_, h⟩
  unfold sameX
  simp only [Bool.and_eq_true, decide_eq_true_eq]
  exact ⟨e2, by omega, by omega, by omega, by omega, by omega⟩

theorem fileB_same {f g : Fl} (h : sameX keyR f g = true) : fileB f = fileB g := by
  unfold sameX at h
  simp only [Bool.and_eq_true, decide_eq_true_eq] at h
  obtain ⟨h1, h2, h3, h4, h5, h6⟩ := h
  unfold fileB
  rw [h1, h2, h3, h4, h5, h6]

theorem filesB_same : ∀ {l m : List Fl}, sameL keyR l m = true → filesB l = filesB m ∧ l.length = m.length
  | [], [], _ => ⟨rfl, rfl⟩
  | [], _ :: _, h => by cases h
  | _ :: _, [], h => by cases h
  | f :: l, g :: m, h => by
    have h' : (sameX keyR f g && sameL keyR l m) = true := h
    rw [Bool.and_eq_true] at h'
    obtain ⟨e1, e2⟩ := filesB_same h'.2
    exact ⟨by unfold filesB; rw [fileB_same h'.1, e1], by simp [e2]⟩

theorem filesB_inj : ∀ {l m : List Fl} {u v : S}, (∀ f ∈ l, FlBd f) → (∀ f ∈ m, FlBd f) → l.length = m.length → filesB l ++ u = filesB m ++ v → sameL keyR l m = true ∧ u = v
  | [], [], u, v, _, _, _, h => ⟨rfl, h⟩
  | [], _ :: _, _, _, _, _, hl, _ => by simp at hl
  | _ :: _, [], _, _, _, _, hl, _ => by simp at hl
  | f :: l, g :: m, u, v, hf, hg, hl, h => by
    simp only [filesB, List.append_assoc] at h
    obtain ⟨e1, h⟩ := fileB_inj (hf f (by simp)) (hg g (by simp)) h
    obtain ⟨e2, h⟩ := filesB_inj (fun x hx => hf x (by simp [hx])) (fun x hx => hg x (by simp [hx])) (by simpa using hl) h
    refine ⟨?_, h⟩
    show (sameX keyR f g && sameL keyR l m) = true
    rw [e1, e2]; rfl

theorem tableB_iff {l m : List Fl} (hl : ∀ f ∈ l, FlBd f) (hm : ∀ f ∈ m, FlBd f) (h1 : l.length ≤ 256) (h2 : m.length ≤ 256) : tableB l = tableB m ↔ sameL keyR l m = true := by
  constructor
  · intro h
    unfold tableB at h
    obtain ⟨e1, h⟩ := app_inj h (by rw [leB_len, leB_len])
    have n1 := leB_inj (by omega) (by omega) e1
    exact (filesB_inj (u := []) (v := []) hl hm n1 (by simpa using h)).1
  · intro h
    obtain ⟨e1, e2⟩ := filesB_same h
    unfold tableB; rw [e1, e2]

theorem check_bd {l : List Fl} (h : checkT l = 0) (hs : ∀ f ∈ l, 0 ≤ f.sum ∧ f.sum < 4294967296) : (∀ f ∈ l, FlBd f) ∧ l.length ≤ 256 := by
  obtain ⟨h1, h2⟩ := checkT_zero.1 h
  exact ⟨fun f hf => ⟨tabF_may h2 f hf, hs f hf⟩, h1⟩

theorem checkT_one (f : Fl) : checkT [f] = if mayF f = true then 0 else 1 := by
  unfold checkT
  rw [if_neg (by simp)]
  unfold tabF tabF aheadF
  cases mayF f <;> simp

end Go.Proofs.YthnhpbihgalgeaaDoor
