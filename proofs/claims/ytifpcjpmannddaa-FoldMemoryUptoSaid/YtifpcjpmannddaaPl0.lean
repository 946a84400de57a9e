/- Floats as words: the plain functions that the program's floats come to. No program in sight. -/
import GoSem.Core.Float
import Derived.RowKit
import Derived.WalkLawsBesides
namespace Go.Proofs.Ytifpcjpmannddaa
open Go.RowKit
/-- How two floats stand to each other; none: a NaN is among them. -/
def ford (x y : Nat) : Option Ordering := FloatKind.f64.format.order x y
/-- A NaN. -/
def fnan (x : Nat) : Bool := ford x x != some .eq
/-- x, of a NaN the one that is told. -/
def canon (x : Nat) : Nat := if fnan x then 9221120237041090561 else x
/-- Has a sign. -/
def fneg (x : Nat) : Bool := decide (wrap64 (x : Int) < 0)
/-- Of two noughts the one with a sign comes first. -/
def fside (x : Nat) : Int := if fneg x then 0 else 1
/-- Two numbers, neither a NaN. -/
def fcmp (x y : Nat) : Int := if ford x y == some .lt then -1 else if ford x y == some .gt then 1 else 0
def icmp (x y : Int) : Int := if x < y then -1 else if y < x then 1 else 0
/-- All floats in one row. -/
def fOrder (a b : Nat) : Int :=
  if fnan a && fnan b then 0 else if fnan a then 1 else if fnan b then -1
  else if fcmp a b = 0 then icmp (fside a) (fside b) else fcmp a b
def fLeast (a b : Nat) : Nat := canon (if 0 < fOrder a b then b else a)
def fMost (a b : Nat) : Nat := canon (if fOrder a b < 0 then b else a)
end Go.Proofs.Ytifpcjpmannddaa
