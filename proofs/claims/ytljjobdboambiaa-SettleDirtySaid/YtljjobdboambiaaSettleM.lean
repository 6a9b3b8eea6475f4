/- The plain model of the layer 24: what is reached from the root, what is free, and whether a land is clean. -/
import Derived.Test.YtljjobdboambiaaTasks
namespace Samara

/-- A land: its numbers that stay, its memory, its slots. -/
structure LandSt where
  c : Cfg
  mm : Mm
  ar : Ar

def cellVal (m : Mm) (i : Int) : Int := if decide (0 ≤ i) && decide ((lookAt m.cells i 1).length = 1) then (lookAt m.cells i 1).getD 0 0 else 0
def nodeWords (l : LandSt) (h : Int) : List Int :=
  if cellOf l.c h 0 < 0 ∨ (lookAt l.mm.cells (cellOf l.c h 0) 28).length ≠ 28 then [] else ((lookAt l.mm.cells (cellOf l.c h 0) 28).set 26 0).set 27 0
/-- The loop over a node's slots. -/
def reachLoop (inner : Bool) (sub : Int → List Int → List Int × Bool) : List Int → List Int → List Int × Bool
  | [], out => (out, true)
  | s :: ss, out =>
    if inner then
      let r := sub s out
      if r.2 then reachLoop inner sub ss r.1 else ([], false)
    else reachLoop inner sub ss (if s ≠ 0 then out ++ [s] else out)
def reachFrom (l : LandSt) : Nat → Int → List Int → List Int × Bool
  | 0, _, _ => ([], false)
  | height + 1, h, out =>
    if (unpack (nodeWords l h)).2 = false ∨ l.c.n ≤ out.length then ([], false)
    else
      let r := reachLoop (unpack (nodeWords l h)).1.inner (reachFrom l height) (unpack (nodeWords l h)).1.slots (out ++ [h])
      if r.2 then (r.1, decide (r.1.length ≤ l.c.n)) else ([], false)
/-- Sorted by their slots, those alike as they stood. -/
def insertSlot (x : Int) : List Int → List Int
  | [] => [x]
  | y :: l => if slotOf x < slotOf y then x :: y :: l else y :: insertSlot x l
def sortSlots (l : List Int) : List Int := l.foldl (fun acc x => insertSlot x acc) []
def reachedOf (l : LandSt) : List Int × Bool :=
  let r := reachFrom l 8 (cellVal l.mm 2) []
  if r.2 then (sortSlots r.1, true) else ([], false)
/-- The free slots: at most so many more. -/
def freeLoop (l : LandSt) : Nat → Int → List Int → List Int × Bool
  | f, at_, out =>
    if at_ = 0 then (out, true)
    else if at_ < 0 ∨ (l.c.n : Int) < at_ ∨ l.c.n ≤ out.length then ([], false)
    else match f with
      | 0 => ([], false)
      | f + 1 => freeLoop l f (cellVal l.mm (cellOf l.c at_ 0)) (out ++ [at_])
def freeOf (l : LandSt) : List Int × Bool := freeLoop l l.c.n (cellVal l.mm 21) []
def cleanOf (l : LandSt) : Bool :=
  if (reachedOf l).2 = false ∨ (freeOf l).2 = false ∨ (reachedOf l).1 ≠ l.ar.live ∨ (freeOf l).1.length + (reachedOf l).1.length ≠ l.c.n then false
  else
    decide ((((reachedOf l).1.map slotOf) ++ (freeOf l).1).eraseDups.length = l.c.n) && decide (cellVal l.mm 22 = cellVal l.mm 23) && decide (cellVal l.mm 0 = cellVal l.mm 1)
end Samara
