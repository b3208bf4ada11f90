/- The flash device in plain Lean: pages, what waits, the power; no program, no memory. -/
import Derived.IntWalk
open Go.RowKit
namespace Go.Proofs.YtedkoplgfidjlaaDoor

inductive Pg where
  | blank
  | torn
  | full (b : List UInt8)

/-- what Read answers of a page -/
def Pg.err : Pg → Int
  | .blank => 5
  | .torn => 6
  | .full _ => 0
def Pg.data : Pg → List UInt8
  | .full b => b
  | _ => []

/-- a device of n pages -/
structure Dev where
  n : Nat
  fl : Nat → Pg
  wt : Nat → Option Pg
  off : Bool
  armed : Int
  losses : Int

namespace Dev
def new (n : Nat) : Dev := { n, fl := fun _ => .blank, wt := fun _ => none, off := false, armed := 0, losses := 0 }
def more (l : Int) : Int := wrap64 (l + 1)
/-- a call asks for power: is there some -/
def spent (D : Dev) : Bool := !D.off && !(D.armed == 1)
def spend (D : Dev) : Dev :=
  if D.off then D
  else if D.armed = 1 then { D with armed := 0, off := true, losses := more D.losses }
  else if 0 < D.armed then { D with armed := D.armed - 1 }
  else D
def put (D : Dev) (k : Nat) (p : Pg) : Dev := { D with wt := fun i => if i = k then some p else D.wt i }
def change (D : Dev) (k : Nat) (p : Pg) : Dev := if D.spent then D.spend.put k p else D.spend
def changeE (D : Dev) : Int := if D.spent then 0 else 4
def pad (b : List UInt8) : List UInt8 := b ++ List.replicate (384 - b.length) 0
def settled (D : Dev) : Dev := { D with fl := fun i => (D.wt i).getD (D.fl i), wt := fun _ => none }
def flush (D : Dev) : Dev := if D.spent then D.spend.settled else D.spend
def page (D : Dev) (k : Nat) : Pg := (D.wt k).getD (D.fl k)
def has (D : Dev) (k : Int) : Bool := decide (0 ≤ k) && decide (k < D.n)
def writeE (D : Dev) (k : Int) (len : Nat) : Int := if D.has k && decide (len ≤ 384) then D.changeE else 1
def write (D : Dev) (k : Int) (b : List UInt8) : Dev := if D.has k && decide (b.length ≤ 384) then D.change k.toNat (.full (pad b)) else D
def eraseE (D : Dev) (k : Int) : Int := if D.has k then D.changeE else 1
def erase (D : Dev) (k : Int) : Dev := if D.has k then D.change k.toNat .blank else D
def readE (D : Dev) (k : Int) : Int := if D.has k then (if D.off then 4 else (D.page k.toNat).err) else 1
def read (D : Dev) (k : Int) : List UInt8 := if D.has k then (if D.off then [] else (D.page k.toNat).data) else []
def arm (D : Dev) (n : Int) : Dev := { D with armed := if 0 ≤ n then n else 0 }
/-- the pages that wait, by rising numbers -/
def waiting (D : Dev) : List Nat := (List.range D.n).filter fun i => (D.wt i).isSome
/-- how many of those that wait stand ahead of k -/
def rank (D : Dev) (k : Nat) : Nat := ((List.range k).filter fun i => (D.wt i).isSome).length
def fate (was now : Pg) (pick : Option UInt8) : Pg := match pick with
  | none => was
  | some c => if c.toNat % 3 = 0 then was else if c.toNat % 3 = 1 then now else .torn
def settle (D : Dev) (picks : List UInt8) : Dev :=
  { D with fl := fun i => match D.wt i with | none => D.fl i | some p => fate (D.fl i) p picks[D.rank i]?, wt := fun _ => none, losses := more D.losses }
def crash (D : Dev) (picks : List UInt8) : Dev := { D.settle picks with off := true }
def on (D : Dev) : Dev := { D.settle [] with off := false, armed := 0 }
end Dev
end Go.Proofs.YtedkoplgfidjlaaDoor
