/-
  Extents, plainly: what the program's package extent computes, on lists of numbers.
-/
import Derived.Test.YtdannmfdenlikaaSlBase
namespace Go.Proofs.Ytdannmfdenlikaa
set_option linter.unusedSimpArgs false
set_option linter.unusedVariables false
set_option linter.unnecessarySimpa false
open Go Am

structure Ext where
  at_ : Int
  len : Int
deriving DecidableEq

structure Exts where
  size : Int
  free : List Ext

abbrev W (n : Int) : Int := IntKind.i64.wrap n

def encE (e : Ext) : List PD := [.v (.int .i64 e.at_), .v (.int .i64 e.len)]
def encX (x : Exts) : List Cell := [.p (.v (.int .i64 x.size)), .p (.sl 2 (x.free.map encE))]
def ExtV (e : Ext) : AV := .agg [.p (.v (.int .i64 e.at_)), .p (.v (.int .i64 e.len))]
def ExtsV (x : Exts) : AV := .agg [.p (.v (.int .i64 x.size)), .p (.sl 2 (x.free.map encE))]

def endW (e : Ext) : Int := W (e.at_ + e.len)
def fitsB (size : Int) (e : Ext) : Bool := decide (0 ≤ e.at_) && (decide (e.at_ ≤ size) && (decide (1 ≤ e.len) && decide (e.len ≤ W (size - e.at_))))
def okFree (size : Int) : Int → List Ext → Bool
  | _, [] => true
  | last, s :: r => fitsB size s && (decide (last < s.at_) && okFree size (endW s) r)
def chk (x : Exts) : Int := if x.size < 0 ∨ 8192 < x.size then 1 else if okFree x.size (-1) x.free = true then 0 else 1

def takeX (x : Exts) (n : Int) : Ext × Exts × Int :=
  if chk x ≠ 0 ∨ n < 1 then (⟨0, 0⟩, ⟨0, []⟩, 1) else
  if idxFrom (fun s : Ext => decide (n ≤ s.len)) 0 x.free < 0 then (⟨0, 0⟩, ⟨0, []⟩, 6) else
  let i := (idxFrom (fun s : Ext => decide (n ≤ s.len)) 0 x.free).toNat
  let e := x.free.getD i ⟨0, 0⟩
  if W (e.len - n) = 0 then (⟨e.at_, n⟩, ⟨x.size, x.free.take i ++ x.free.drop (i + 1)⟩, 0)
  else (⟨e.at_, n⟩, ⟨x.size, x.free.set i ⟨W (e.at_ + n), W (e.len - n)⟩⟩, 0)

def bothE (x : Exts) (s : Ext) : Int := if fitsB x.size s = true then chk x else 1

/-- what of f is left, s taken out -/
def restOf (f s : Ext) : List Ext := [⟨f.at_, W (s.at_ - f.at_)⟩, ⟨endW s, W (endW f - endW s)⟩].filter (fun r => decide (0 < r.len))

def keepX (x : Exts) (s : Ext) : Exts × Int :=
  if bothE x s ≠ 0 then (⟨0, []⟩, bothE x s) else
  if idxFrom (fun f : Ext => decide (f.at_ ≤ s.at_) && decide (endW s ≤ endW f)) 0 x.free < 0 then (⟨0, []⟩, 4) else
  let i := (idxFrom (fun f : Ext => decide (f.at_ ≤ s.at_) && decide (endW s ≤ endW f)) 0 x.free).toNat
  (⟨x.size, x.free.take i ++ (restOf (x.free.getD i ⟨0, 0⟩) s ++ x.free.drop (i + 1))⟩, 0)

/-- the first one that does not end ahead of s -/
def fromX (l : List Ext) (s : Ext) : Nat := if idxFrom (fun f : Ext => decide (s.at_ ≤ endW f)) 0 l < 0 then l.length else (idxFrom (fun f : Ext => decide (s.at_ ≤ endW f)) 0 l).toNat

def midX (l : List Ext) (s : Ext) : List Ext := (l.drop (fromX l s)).takeWhile (fun f => decide (f.at_ ≤ endW s))
def hitX (s f : Ext) : Bool := decide (f.at_ < endW s) && decide (s.at_ < endW f)

def joinX (m : List Ext) (s : Ext) : Ext :=
  if m = [] then s else ⟨min s.at_ (m.getD 0 ⟨0, 0⟩).at_, W (max (endW s) (endW (m.getD (m.length - 1) ⟨0, 0⟩)) - min s.at_ (m.getD 0 ⟨0, 0⟩).at_)⟩

def giveX (x : Exts) (s : Ext) : Exts × Int :=
  if bothE x s ≠ 0 then (⟨0, []⟩, bothE x s) else
  if (midX x.free s).any (hitX s) = true then (⟨0, []⟩, 5) else
  (⟨x.size, x.free.take (fromX x.free s) ++ (joinX (midX x.free s) s :: x.free.drop (fromX x.free s + (midX x.free s).length))⟩, 0)

def newX (size : Int) : Exts × Int := if size < 0 ∨ 8192 < size then (⟨0, []⟩, 1) else if 0 < size then (⟨size, [⟨0, size⟩]⟩, 0) else (⟨size, []⟩, 0)

def roomX (x : Exts) : Int × Int := if chk x ≠ 0 then (0, chk x) else (x.free.foldl (fun n s => W (n + s.len)) 0, 0)

theorem idxFrom_spec {α : Type} (f : α → Bool) : ∀ (l : List α) (k : Nat), idxFrom f k l = -1 ∨ ∃ i, i < l.length ∧ idxFrom f k l = ((k + i : Nat) : Int)
  | [], _ => .inl rfl
  | x :: l, k => by
    unfold idxFrom
    split
    · exact .inr ⟨0, by simp, by simp⟩
    · rcases idxFrom_spec f l (k + 1) with h | ⟨i, h1, h2⟩
      · exact .inl h
      · exact .inr ⟨i + 1, by simp; omega, by rw [h2]; omega⟩

theorem getD_map_encE (l : List Ext) (i : Nat) (h : i < l.length) : (l.map encE).getD i [] = encE l[i] := by simp [List.getD, h]

end Go.Proofs.Ytdannmfdenlikaa
