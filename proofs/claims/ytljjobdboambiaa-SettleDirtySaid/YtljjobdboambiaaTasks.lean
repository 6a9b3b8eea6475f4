import Derived.Test.YtljjobdboambiaaModel
import Derived.Test.YtljjobdboambiaaSlots
/- The tasks of the layers 4, 5, 16, 17, 19, 20, 21 as trees of accesses. -/
namespace Samara
open Tk

/-! rcu -/
def isReader (r : Int) : Bool := decide (0 ≤ r) && decide (r < 16)
def rcuEnter (at_ r : Int) : Tk Unit :=
  if isReader r then do
    let v ← load at_
    store (at_ + 1 + r) (w64 (v + 1))
  else pure ()
def rcuLeave (at_ r : Int) : Tk Unit := if isReader r then store (at_ + 1 + r) 0 else pure ()
def rcuEpoch (at_ : Int) : Tk Int := load at_
/-- The loop of Advance: so many readers are still to be asked, from the i-th on. -/
def advanceLoop (at_ now : Int) : Nat → Int → Tk Bool
  | 0, _ => do
    store at_ (w64 (now + 1))
    let d ← dry
    pure (!d)
  | left + 1, i => do
    let v ← load (at_ + 1 + i)
    if v ≠ 0 ∧ v ≠ w64 (now + 1) then pure false else advanceLoop at_ now left (i + 1)
def rcuAdvance (at_ : Int) : Tk Bool := do
  let now ← rcuEpoch at_
  advanceLoop at_ now 16 0
def rcuFree (tag epoch : Int) : Bool := decide (-9223372036854775806 ≤ epoch) && decide (tag ≤ epoch - 2)

/-! latch -/
def latchTake (at_ : Int) : Tk Int := do
  let ticket ← add at_ 1
  wait (at_ + 1) ticket
  let d ← dry
  if d then pure 0 else pure ticket
def latchGive (at_ ticket : Int) : Tk Unit := store (at_ + 1) (w64 (ticket + 1))

/-! seek -/
def seekRead (c : Cfg) (h word : Int) : Tk Int := do
  let v ← load (cellOf c h word)
  touchIf h
  pure v
/-- Kind and number of entries; (false, 0): it is none. -/
def seekHead (c : Cfg) (h : Int) : Tk (Bool × Nat) := do
  let v ← seekRead c h 0
  let d ← dry
  if d || (decide (v.tmod 16 ≠ 1) && decide (v.tmod 16 ≠ 2)) || decide (v.tdiv 16 < 1) || decide (8 < v.tdiv 16) then pure (false, 0)
  else pure (decide (v.tmod 16 = 2), (v.tdiv 16).toNat)
def lookLoop (c : Cfg) (h addr : Int) (inner : Bool) : Nat → Int → Tk (Int × Bool × Bool)
  | 0, _ => pure (0, false, false)
  | left + 1, i => do
    let stop ← seekRead c h (2 + i)
    let d ← dry
    if d || decide (stop ≤ addr) then lookLoop c h addr inner left (i + 1)
    else do
      let v ← seekRead c h (10 + i)
      let d ← dry
      if d then pure (0, false, false) else pure (v, inner, true)
def seekLook (c : Cfg) (h addr : Int) : Tk (Int × Bool × Bool) := do
  let (inner, n) ← seekHead c h
  lookLoop c h addr inner n 0
def areaLoop (c : Cfg) (h : Int) : Nat → Int → Tk (List Int)
  | 0, _ => pure []
  | left + 1, i => do
    let v ← seekRead c h i
    let l ← areaLoop c h left (i + 1)
    pure (v :: l)
def seekArea (c : Cfg) (h : Int) : Tk (Area × Bool × Bool) := do
  let w ← areaLoop c h 8 0
  let d ← dry
  if d then pure (Area.zero, false, false) else pure (unpackArea (w ++ List.replicate 20 0))
def nodeLoop (c : Cfg) (h : Int) : Nat → Int → Node → Tk Node
  | 0, _, n => pure n
  | left + 1, i, n => do
    let e ← seekRead c h (2 + i)
    let s ← seekRead c h (10 + i)
    let g ← seekRead c h (18 + i)
    nodeLoop c h left (i + 1) { n with ends := n.ends ++ [e], slots := n.slots ++ [s], gaps := n.gaps ++ [g] }
def seekNode (c : Cfg) (h : Int) : Tk (Node × Bool) := do
  let (inner, k) ← seekHead c h
  if k = 0 then pure (Node.zero, false) else do
    let lo ← seekRead c h 1
    let n ← nodeLoop c h k 0 ⟨inner, lo, [], [], []⟩
    let d ← dry
    if d || !nodeFormed n then pure (Node.zero, false) else pure (n, true)

/-! walk -/
def findLoop (c : Cfg) (addr : Int) : Nat → Int → Tk (Int × Bool)
  | 0, _ => pure (0, false)
  | left + 1, root => do
    let (h, inner, ok) ← seekLook c root addr
    if ok = false then pure (0, false)
    else if inner = false then pure (h, true)
    else findLoop c addr left h
def walkFind (c : Cfg) (root addr : Int) : Tk (Int × Bool) := findLoop c addr 8 root
structure Walker where
  entries : List Entry
  nodes : List Int
/-- The loop over a node's entries; what is below is gone through by `sub`. -/
def downLoop (inner : Bool) (sub : Int → Walker → Tk (Walker × Bool)) : Int → List Int → List Int → Walker → Tk (Walker × Bool)
  | lo, e :: es, s :: ss, w =>
    if inner then do
      let (w, ok) ← sub s w
      if ok then downLoop inner sub e es ss w else pure (w, false)
    else downLoop inner sub e es ss { w with entries := w.entries ++ [⟨lo, e, s⟩] }
  | _, _, _, w => pure (w, true)
def walkDown (c : Cfg) : Nat → Int → Walker → Tk (Walker × Bool)
  | 0, _, w => pure (w, false)
  | height + 1, h, w =>
    if w.nodes.length = 64 then pure (w, false) else do
      let w := { w with nodes := w.nodes ++ [h] }
      let (n, ok) ← seekNode c h
      if ok then downLoop n.inner (walkDown c height) n.lo n.ends n.slots w else pure (w, false)
def walkAll (c : Cfg) (root : Int) : Tk (List Entry × List Int × Bool) := do
  let (w, ok) ← walkDown c 8 root ⟨[], []⟩
  if ok then pure (w.entries, w.nodes, true) else pure ([], [], false)

/-! replace -/
/-- g<<16 | s in 64 bits. -/
def shiftOr (g s : Int) : Int := ((BitVec.ofInt 64 g <<< 16) ||| BitVec.ofInt 64 s).toInt
def bornIf (s : Int) : Tk Unit := .born s (.ret ())
def diedIf (h : Int) : Tk Unit := .died h (.ret ())
def landTake (c : Cfg) : Tk Int := do
  let s ← load 21
  if s = 0 then pure 0 else do
    let behind ← load (cellOf c s 0)
    let g0 ← load (cellOf c s 27)
    let g := w64 (g0 + 1)
    store (cellOf c s 27) g
    store 21 behind
    bornIf (slotOf s)
    let d ← dry
    if d then pure 0 else pure (shiftOr g s)
def landGive (c : Cfg) (h : Int) : Tk Unit := do
  let f ← load 21
  store (cellOf c h 0) f
  store 21 (slotOf h)
  diedIf h
def giveBack (c : Cfg) : List Int → Tk Unit
  | [] => pure ()
  | h :: l => do landGive c h; giveBack c l
def reserveLoop (c : Cfg) : Nat → List Int → Tk (List Int × Bool)
  | 0, out => pure (out, true)
  | left + 1, out => do
    let h ← landTake c
    let d ← dry
    if d then pure ([], false)
    else if h = 0 then do giveBack c out.reverse; pure ([], false)
    else reserveLoop c left (out ++ [h])
def landReserve (c : Cfg) (n : Nat) : Tk (List Int × Bool) := reserveLoop c n []
def writeLoop (c : Cfg) (h : Int) : Int → List Int → Tk Unit
  | _, [] => pure ()
  | i, w :: l => do
    store (cellOf c h i) w
    touchIf h
    writeLoop c h (i + 1) l
def landWrite (c : Cfg) (h : Int) (words : List Int) : Tk Unit := writeLoop c h 0 (words.take 26)
def ringAt (c : Cfg) (i : Int) : Int := 24 + 2 * (i % c.n)
def landRetire (c : Cfg) (h tag : Int) : Tk Unit := do
  let tail ← load 23
  store (ringAt c tail) h
  store (ringAt c tail + 1) tag
  store 23 (w64 (tail + 1))
def reclaimLoop (c : Cfg) (epoch : Int) : Nat → Int → Tk Int
  | 0, n => do
    let d ← dry
    if d then pure 0 else pure n
  | left + 1, n => do
    let d ← dry
    if d then pure 0 else do
      let head ← load 22
      let tail ← load 23
      if head = tail then (do let d ← dry; if d then pure 0 else pure n) else do
        let h ← load (ringAt c head)
        let tag ← load (ringAt c head + 1)
        let d ← dry
        if d || !rcuFree tag epoch then (do let d ← dry; if d then pure 0 else pure n) else do
          landGive c h
          store 22 (w64 (head + 1))
          reclaimLoop c epoch left (n + 1)
def landReclaim (c : Cfg) (most : Nat) : Tk Int := do
  let epoch ← rcuEpoch 4
  reclaimLoop c epoch most 0

/-! writer -/
structure Known where
  h : Int
  area : Area
  deriving DecidableEq
def readLoop (c : Cfg) : List Entry → List Known → Tk (Option (List Known))
  | [], out => pure (some out)
  | e :: l, out =>
    if e.h = 0 then readLoop c l out else do
      let (a, dead, ok) ← seekArea c e.h
      if ok = false ∨ dead = true then pure none else readLoop c l (out ++ [⟨e.h, a⟩])
def writerRead (c : Cfg) : Tk (List Known × List Int × Int × Bool) := do
  let root ← load 2
  markAt 1
  let (entries, nodes, ok) ← walkAll c root
  if ok = false then pure ([], [], 0, false) else do
    let out ← readLoop c entries []
    match out with
    | none => pure ([], [], 0, false)
    | some out => do
      let now ← load 3
      let d ← dry
      if d then pure ([], [], 0, false) else pure (out, nodes, now, true)
/-- The handle that an area has already: of the last one that is alike; 0: none. -/
def handleIn (known : List Known) (a : Area) : Int :=
  known.foldl (fun h k => if k.area = a then k.h else h) 0
def handlesOf (known : List Known) (now : List Area) : List Int := now.map (handleIn known)
def goneOf (known : List Known) (now : List Area) : List Int := (known.filter fun k => !decide (k.area ∈ now)).map (·.h)
def countEntries (l : List Area) : Nat := (entriesOf l (List.replicate l.length 1)).length
/-- The new areas are written; what all of them have for handles. -/
def areasLoop (c : Cfg) : List Area → List Int → List Int → List Int → Tk (List Int)
  | a :: l, h :: hs, fresh, out =>
    if h = 0 then
      match fresh with
      | f :: fs => do
        landWrite c f ((packArea a false).take 8)
        areasLoop c l hs fs (out ++ [f])
      | [] => pure out
    else areasLoop c l hs fresh (out ++ [h])
  | _, _, _, out => pure out
def treeLoop (c : Cfg) : List Placed → Tk Unit
  | [] => pure ()
  | p :: l => do
    landWrite c p.h ((pack p.node).take 26)
    treeLoop c l
def retireDead (c : Cfg) (tag : Int) : List Int → Tk Unit
  | [] => pure ()
  | h :: l => do
    store (cellOf c h 1) 1
    touchIf h
    landRetire c h tag
    retireDead c tag l
def retireNodes (c : Cfg) (tag : Int) : List Int → Tk Unit
  | [] => pure ()
  | h :: l => do
    landRetire c h tag
    retireNodes c tag l
def workRetire (c : Cfg) (gone nodes : List Int) : Tk Unit := do
  let tag ← rcuEpoch 4
  retireDead c tag gone
  retireNodes c tag nodes
def workPublish (c : Cfg) (known : List Known) (nodes : List Int) (was now : Space) : Tk Bool := do
  let handles := handlesOf known now.areas
  let missing := (handles.filter fun h => decide (h = 0)).length
  let (all, ok) ← landReserve c (missing + countNodes (countEntries now.areas))
  if ok = false then pure false else do
    let handles ← areasLoop c now.areas handles (all.take missing) []
    treeLoop c (treeOf (entriesOf now.areas handles) (all.drop missing))
    if now.brk ≠ was.brk then store 3 now.brk else pure ()
    store 2 (all.getLastD 0)
    markAt 2
    workRetire c (goneOf known now.areas) nodes
    pure true
def workDo (c : Cfg) (known : List Known) (nodes : List Int) (was now : Space) : Tk Int :=
  if was = now then pure 0
  else if was.areas = now.areas then do
    store 3 now.brk
    markAt 2
    pure 0
  else do
    let ok ← workPublish c known nodes was now
    if ok then pure 0 else pure 10
def writerDo (c : Cfg) (call : Call) : Tk Answer := do
  let (known, nodes, now, ok) ← writerRead c
  let d ← dry
  if d then pure Answer.zero
  else if ok = false then pure (Answer.error 1)
  else do
    let was : Space := ⟨known.map (·.area), now⟩
    let (next, a) := changeDo was call
    let a ← (if a.err = 0 then do
        let e ← workDo c known nodes was next
        if e ≠ 0 then pure (Answer.error e) else pure a
      else pure a)
    let d ← dry
    if d then pure Answer.zero else pure a
def writerCall (c : Cfg) (call : Call) : Tk Answer := do
  let ticket ← latchTake 0
  let _ ← rcuAdvance 4
  let _ ← landReclaim c 64
  let a ← writerDo c call
  latchGive 0 ticket
  let d ← dry
  if d then pure Answer.zero else pure a

/-! fault -/
/-- What an attempt answers within the board; false: it came too late. -/
def faultLook (c : Cfg) (call : Call) : Tk (Answer × Bool) := do
  let root ← load 2
  markAt 1
  let (h, ok) ← walkFind c root call.addr
  if ok = false then pure (Answer.error 7, decide (2097152 ≤ call.addr))
  else if h = 0 then pure (Answer.error 7, true)
  else do
    let (a, dead, ok) ← seekArea c h
    if ok = false ∨ dead = true then pure (Answer.zero, false) else pure (faultCall [a] call, true)
def faultTry (c : Cfg) (reader : Int) (call : Call) : Tk (Answer × Bool) := do
  rcuEnter 4 reader
  let (a, fine) ← faultLook c call
  rcuLeave 4 reader
  let d ← dry
  if d || !fine then pure (Answer.zero, false) else pure (a, true)
def triesLoop (c : Cfg) (reader : Int) (call : Call) : Nat → Tk Answer
  | 0 => writerCall c call
  | left + 1 => do
    let (a, ok) ← faultTry c reader call
    let d ← dry
    if ok || d then pure a else triesLoop c reader call left
def faultFault (c : Cfg) (reader : Int) (call : Call) : Tk Answer :=
  if call.prot < 1 ∨ 7 < call.prot then do
    let _ ← load 2
    markAt 1
    let d ← dry
    if d then pure Answer.zero else pure (Answer.error 1)
  else triesLoop c reader call 2
def faultAny (c : Cfg) (reader : Int) (call : Call) : Tk Answer :=
  if call.kind = 5 then faultFault c reader call else writerCall c call
end Samara
