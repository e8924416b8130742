/-
  Names, plainly.
-/
import Derived.Test.YtengjcdilnikhaaDoorAmRange
import Derived.Test.YtengjcdilnikhaaDoorAmTy
namespace Go.Proofs.YtengjcdilnikhaaDoor
set_option linter.unusedSimpArgs false
set_option linter.unusedVariables false
set_option linter.unnecessarySimpa false
open Go Am

def mkS (l : List UInt8) : ByteArray := ⟨l.toArray⟩
theorem mkS_list (l : List UInt8) : (mkS l).data.toList = l := rfl
theorem mkS_size (l : List UInt8) : (mkS l).size = l.length := by simp [mkS, ByteArray.size]
theorem mkS_of (s : ByteArray) : mkS s.data.toList = s := by simp [mkS]
theorem mkS_inj {a b : List UInt8} (h : mkS a = mkS b) : a = b := by
  have := congrArg (fun s : ByteArray => s.data.toList) h
  exact this
theorem mkS_extract (l : List UInt8) (a b : Nat) : (mkS l).extract a b = mkS ((l.drop a).take (b - a)) := by
  apply ByteArray.ext
  rw [ByteArray.data_extract]
  apply Array.ext'
  simp [mkS, List.extract]
theorem mkS_append (a b : List UInt8) : mkS a ++ mkS b = mkS (a ++ b) := by
  apply ByteArray.ext
  rw [ByteArray.data_append]
  apply Array.ext'
  simp [mkS]

abbrev StrV (l : List UInt8) : AV := .one (.p (.v (.string (mkS l))))
abbrev U8V (c : UInt8) : AV := .one (.p (.v (.int .u8 (c.toNat : Int))))

def octB (c : UInt8) : Bool := c == 47 || (decide (32 < c.toNat) && decide (c.toNat < 127))

/-- what fits tells -/
def fitsX (l : List UInt8) : Int := if 96 < l.length then 3 else if l.all octB = true then 0 else 2

def parts : List UInt8 → List (List UInt8)
  | [] => [[]]
  | c :: l => if c = 47 then [] :: parts l else match parts l with
    | p :: ps => (c :: p) :: ps
    | [] => [[c]]

/-- one part more; none: no way up -/
def stepC (kept : List (List UInt8)) (p : List UInt8) : Option (List (List UInt8)) :=
  if p = [] ∨ p = [46] then some kept else if p = [46, 46] then (if kept = [] then none else some kept.dropLast) else some (kept ++ [p])

def goC : List (List UInt8) → List (List UInt8) → Option (List (List UInt8))
  | kept, [] => some kept
  | kept, p :: ps => match stepC kept p with
    | some k => goC k ps
    | none => none

def joinS : List (List UInt8) → List UInt8
  | [] => []
  | [p] => p
  | p :: ps => p ++ 47 :: joinS ps

def cleanX (l : List UInt8) : List UInt8 × Int :=
  if fitsX l ≠ 0 then ([], fitsX l) else match goC [] (parts l) with
    | none => ([], 4)
    | some [] => ([], 1)
    | some (p :: ps) => (joinS (p :: ps), 0)

end Go.Proofs.YtengjcdilnikhaaDoor
