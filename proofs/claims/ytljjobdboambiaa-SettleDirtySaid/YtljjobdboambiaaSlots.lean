import Derived.Test.YtljjobdboambiaaAreas
/- The plain model of the layers 15 and 18: how things lie in slots, and trees that are made anew. -/
namespace Samara

structure Node where
  inner : Bool
  lo : Int
  ends : List Int
  slots : List Int
  gaps : List Int
  deriving DecidableEq
def Node.zero : Node := ⟨false, 0, [], [], []⟩

def entryOk (inner : Bool) (from_ stop h g : Int) : Bool :=
  decide (from_ < stop) && whole stop && decide (0 ≤ h) && !(inner && decide (h = 0)) &&
  (if inner then decide (0 ≤ g) && decide (g ≤ stop - from_) else if h = 0 then decide (g = stop - from_) else decide (g = 0))
def entriesOk (inner : Bool) : Int → List Int → List Int → List Int → Bool
  | from_, e :: es, h :: hs, g :: gs => entryOk inner from_ e h g && entriesOk inner e es hs gs
  | _, _, _, _ => true
def nodeFormed (n : Node) : Bool :=
  decide (1 ≤ n.ends.length) && decide (n.ends.length ≤ 8) && decide (n.slots.length = n.ends.length) && decide (n.gaps.length = n.ends.length) &&
  decide (65536 ≤ n.lo) && whole n.lo && decide (n.ends.getLastD 0 ≤ 2097152) && entriesOk n.inner n.lo n.ends n.slots n.gaps
def filled (w : List Int) (n : Nat) : List Int := w ++ List.replicate (n - w.length) 0
def pack (n : Node) : List Int :=
  if nodeFormed n then
    filled (filled (filled ([(if n.inner then 2 else 1) + 16 * (n.ends.length : Int), n.lo] ++ n.ends) 10 ++ n.slots) 18 ++ n.gaps) 28
  else []
def unpack (w : List Int) : Node × Bool :=
  if w.length = 28 ∧ 16 ≤ w.getD 0 0 ∧ w.getD 0 0 ≤ 130 then
    let k := min (w.getD 0 0 / 16).toNat 8
    let n : Node := ⟨decide (w.getD 0 0 % 16 = 2), w.getD 1 0, (w.drop 2).take k, (w.drop 10).take k, (w.drop 18).take k⟩
    if pack n = w then (n, true) else (Node.zero, false)
  else (Node.zero, false)
def boolNum (b : Bool) : Int := if b then 1 else 0
def packArea (a : Area) (dead : Bool) : List Int :=
  if formed a then filled [3, boolNum dead, a.start, a.stop, a.prot, boolNum a.shared, a.back, a.off] 28 else []
def unpackArea (w : List Int) : Area × Bool × Bool :=
  if w.length = 28 then
    let a : Area := ⟨w.getD 2 0, w.getD 3 0, w.getD 4 0, decide (w.getD 5 0 = 1), w.getD 6 0, w.getD 7 0⟩
    let dead := decide (w.getD 1 0 = 1)
    if packArea a dead = w then (a, dead, true) else (Area.zero, false, false)
  else (Area.zero, false, false)
def largest (n : Node) : Int := if nodeFormed n then (n.gaps.tail.foldl max (n.gaps.headD 0)) else 0

/-! build -/
structure Entry where
  lo : Int
  stop : Int
  h : Int
  deriving DecidableEq
structure Placed where
  h : Int
  node : Node
  deriving DecidableEq
def aboveAll (l : List Int) : Bool := l.all fun h => decide (0 < h)
def entriesFrom : Int → List Area → List Int → List Entry
  | x, a :: l, h :: hs => (if x < a.start then [⟨x, a.start, 0⟩] else []) ++ ⟨a.start, a.stop, h⟩ :: entriesFrom a.stop l hs
  | x, _, _ => if x < 2097152 then [⟨x, 2097152, 0⟩] else []
def entriesOf (l : List Area) (hs : List Int) : List Entry :=
  if right l && decide (hs.length = l.length) && aboveAll hs then entriesFrom 65536 l hs else []
def cutSizes (n : Nat) : List Nat :=
  if n < 1 ∨ 64 < n then [] else (List.range ((n + 7) / 8)).map fun i => n / ((n + 7) / 8) + if i < n % ((n + 7) / 8) then 1 else 0
/-- How many nodes a tree of n entries has: at most 64, so at most two levels more. -/
def countFrom : Nat → Nat → Nat
  | 0, _ => 0
  | f + 1, n => if 0 < n ∧ n ≤ 64 then (let k := (cutSizes n).length; if k = 1 then 1 else k + countFrom f k) else 0
def countNodes (n : Nat) : Nat := countFrom 5 n
def formedFrom : Option Entry → List Entry → Bool
  | _, [] => true
  | p, e :: l => decide (65536 ≤ e.lo) && decide (e.stop ≤ 2097152) && decide (e.lo < e.stop) && whole e.lo && whole e.stop && decide (0 ≤ e.h) &&
      (match p with | none => true | some q => decide (q.stop = e.lo)) && formedFrom (some e) l
def entriesFormed (l : List Entry) : Bool := formedFrom none l && decide (1 ≤ l.length) && decide (l.length ≤ 64)
/-- Entries with their gaps. -/
abbrev Part := Entry × Int
def nodeOf (l : List Part) (inner : Bool) : Node :=
  ⟨inner, (l.headD (⟨0, 0, 0⟩, 0)).1.lo, l.map (·.1.stop), l.map (·.1.h), l.map (·.2)⟩
/-- A level's nodes and what it is to the next one: sizes of its pieces, what is left of the parts, the handles that are left. -/
def levelOf (inner : Bool) : List Nat → List Part → List Int → List Placed × List Part
  | n :: ns, l, h :: hs =>
    let made : Placed := ⟨h, nodeOf (l.take n) inner⟩
    let rest := levelOf inner ns (l.drop n) hs
    (made :: rest.1, (⟨(l.headD (⟨0, 0, 0⟩, 0)).1.lo, ((l.take n).getLastD (⟨0, 0, 0⟩, 0)).1.stop, h⟩, largest made.node) :: rest.2)
  | _, _, _ => ([], [])
def treeFrom : Nat → Bool → List Part → List Int → List Placed
  | 0, _, _, _ => []
  | f + 1, inner, l, hs =>
    let r := levelOf inner (cutSizes l.length) l hs
    if r.1.length = 1 then r.1 else r.1 ++ treeFrom f true r.2 (hs.drop r.1.length)
def treeOf (l : List Entry) (hs : List Int) : List Placed :=
  if entriesFormed l && decide (hs.length = countNodes l.length) && aboveAll hs then
    treeFrom 5 false (l.map fun e => (e, if e.h = 0 then e.stop - e.lo else 0)) hs
  else []
end Samara
