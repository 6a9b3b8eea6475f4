/- The plain model of the layers 6 to 14: areas, lists of them, gaps, and what a call does to a space. Nothing of Go stands here. -/
namespace Samara

structure Area where
  start : Int
  stop : Int
  prot : Int
  shared : Bool
  back : Int
  off : Int
  deriving DecidableEq

structure Attr where
  prot : Int
  shared : Bool
  back : Int
  off : Int
  deriving DecidableEq

structure Call where
  kind : Int
  addr : Int
  len : Int
  new : Int
  to : Int
  prot : Int
  flags : Int
  back : Int
  off : Int
  deriving DecidableEq

structure Answer where
  err : Int
  value : Int
  attr : Attr
  deriving DecidableEq

def Area.zero : Area := ⟨0, 0, 0, false, 0, 0⟩
def Attr.zero : Attr := ⟨0, false, 0, 0⟩
def Answer.zero : Answer := ⟨0, 0, Attr.zero⟩
def Answer.error (e : Int) : Answer := ⟨e, 0, Attr.zero⟩
def Answer.ok (v : Int) : Answer := ⟨0, v, Attr.zero⟩

/-! area -/
def whole (n : Int) : Bool := decide (n % 4096 = 0)
def formed (a : Area) : Bool :=
  whole a.start && whole a.stop && decide (65536 ≤ a.start) && decide (a.stop ≤ 2097152) && decide (a.start < a.stop) &&
  decide (0 ≤ a.prot) && decide (a.prot ≤ 7) && decide (0 ≤ a.back) && decide (a.back ≤ 9) &&
  (if a.back = 0 then decide (a.off = 0) else whole a.off && decide (0 ≤ a.off) && decide (a.off ≤ 1099511627776 - (a.stop - a.start)))
def hasAddr (a : Area) (x : Int) : Bool := formed a && decide (a.start ≤ x) && decide (x < a.stop)
def offAt (a : Area) (x : Int) : Int := if a.back = 0 then 0 else a.off + x - a.start
def attrAt (a : Area) (x : Int) : Attr × Bool :=
  if hasAddr a x then (⟨a.prot, a.shared, a.back, offAt a (x - x % 4096)⟩, true) else (Attr.zero, false)
def goes (a b : Area) : Bool :=
  formed a && formed b && decide (a.stop = b.start) && decide (a.prot = b.prot) && decide (a.shared = b.shared) && decide (a.back = b.back) && decide (b.off = offAt a a.stop)
def join (a b : Area) : Option Area :=
  if goes a b && formed { a with stop := b.stop } then some { a with stop := b.stop } else none
def floorPage (n : Int) : Int := n - n % 4096
def ceilPage (n : Int) : Int := if 2097152 < n then 2097152 else -floorPage (-n)
def part (a : Area) (lo hi : Int) : Option Area :=
  if formed a && decide (a.start < hi) && decide (lo < a.stop) && decide (lo < hi) then
    let from_ := max a.start (floorPage (max lo 0))
    let to_ := min a.stop (ceilPage hi)
    if to_ ≤ from_ then none else some { a with off := offAt a from_, start := from_, stop := to_ }
  else none
/-- Bits of a small number. -/
def bitsOf (n : Int) (bit : Int) : Bool := decide (n / bit % 2 = 1)
def mayKind (a : Area) (kind : Int) : Bool :=
  decide (1 ≤ kind) && decide (kind ≤ 7) && (!bitsOf kind 1 || bitsOf a.prot 1) && (!bitsOf kind 2 || bitsOf a.prot 2) && (!bitsOf kind 4 || bitsOf a.prot 4)

/-! list -/
def rightFrom (p : Option Area) : List Area → Bool
  | [] => true
  | a :: l => formed a && (match p with | none => true | some b => decide (b.stop ≤ a.start) && !goes b a) && rightFrom (some a) l
def right (l : List Area) : Bool := rightFrom none l
def find (l : List Area) (x : Int) : Option Area := if right l then l.find? fun a => hasAddr a x else none
def within (l : List Area) (lo hi : Int) : List Area := l.filterMap fun a => part a lo hi
def withinR (l : List Area) (lo hi : Int) : List Area := if right l && decide (lo < hi) then within l lo hi else []
def coverLoop : List Area → Int → Option Int
  | [], x => some x
  | p :: l, x => if p.start = x then coverLoop l p.stop else none
def covered (l : List Area) (lo hi : Int) : Bool :=
  right l && decide (lo < hi) && decide (65536 ≤ lo) && decide (hi ≤ 2097152) &&
  (match coverLoop (within l lo hi) (floorPage lo) with | none => false | some x => decide (hi ≤ x))
/-- The last one is kept ahead of the others, that have been joined. -/
def joinInto (out : List Area) (a : Area) : List Area :=
  match out.getLast? with
  | none => out ++ [a]
  | some b => match join b a with
    | some j => out.dropLast ++ [j]
    | none => out ++ [a]
def joined (l : List Area) : List Area := l.foldl joinInto []
def aheadOf (l : List Area) (from_ : Int) : List Area :=
  l.filterMap fun a => if a.start < from_ then part a 65536 (max from_ 65536) else none
def behindOf (l : List Area) (to_ : Int) : List Area :=
  l.filterMap fun a => if to_ < a.stop then part a (max to_ 65536) 2097152 else none
def toPage (hi : Int) : Int := if hi < 2097152 then -floorPage (-hi) else hi
def around (l : List Area) (lo hi : Int) : List Area × List Area :=
  if hi ≤ lo then (l, []) else (aheadOf l (floorPage lo), behindOf l (toPage hi))
def cut (l : List Area) (lo hi : Int) : List Area := if right l then (around l lo hi).1 ++ (around l lo hi).2 else []
def put (l : List Area) (a : Area) : List Area :=
  if right l && formed a then joined ((around l a.start a.stop).1 ++ a :: (around l a.start a.stop).2) else []
def setProt (l : List Area) (lo hi prot : Int) : List Area :=
  if right l && decide (0 ≤ prot) && decide (prot ≤ 7) then
    joined ((around l lo hi).1 ++ ((if lo < hi then within l lo hi else []).map fun a => { a with prot := prot }) ++ (around l lo hi).2)
  else []

/-! gap -/
def gapsFrom (x : Int) : List Area → List (Int × Int)
  | [] => if x < 2097152 then [(x, 2097152)] else []
  | a :: l => if x < a.start then (x, a.start) :: gapsFrom a.stop l else gapsFrom a.stop l
def gaps (l : List Area) : List (Int × Int) := if right l then gapsFrom 65536 l else []
def gapSize (n : Int) : Bool := decide (1 ≤ n) && whole n && decide (n ≤ 2031616)
def fits (l : List Area) (x n : Int) : Bool :=
  gapSize n && whole x && decide (65536 ≤ x) && decide (x ≤ 2097152 - n) && (gaps l).any fun g => decide (g.1 ≤ x) && decide (x + n ≤ g.2)
def upPage (n : Int) : Int := (n + 4095) / 4096 * 4096
def downPage (n : Int) : Int := n / 4096 * 4096
def gapIn (g : Int × Int) (lo hi : Int) : Int × Int :=
  (max g.1 (upPage (min (max lo 65536) 2097152)), min g.2 (downPage (min (max hi 65536) 2097152)))
def roomIn (lo hi n : Int) (g : Int × Int) : Option (Int × Int) :=
  if n ≤ (gapIn g lo hi).2 - (gapIn g lo hi).1 then some (gapIn g lo hi) else none
def lowest (l : List Area) (lo hi n : Int) : Option Int :=
  if gapSize n && right l then ((gapsFrom 65536 l).findSome? (roomIn lo hi n)).map (·.1) else none
def highest (l : List Area) (lo hi n : Int) : Option Int :=
  if gapSize n && right l then ((gapsFrom 65536 l).filterMap (roomIn lo hi n)).getLast?.map fun g => g.2 - n else none

/-! check -/
def sizeOf (n : Int) : Int × Int := if n = 0 then (0, 3) else if n < 0 ∨ 2031616 < n then (0, 4) else (upPage n, 0)
def rangeOf (x n : Int) : Int × Int × Int :=
  if x % 4096 ≠ 0 then (0, 0, 2)
  else if (sizeOf n).2 ≠ 0 then (0, 0, (sizeOf n).2)
  else if x < 65536 ∨ 2097152 - (sizeOf n).1 < x then (0, 0, 4)
  else (x, x + (sizeOf n).1, 0)
def protOf (p : Int) : Int := if p < 0 ∨ 7 < p then 1 else 0
def backingOf (back off size : Int) : Int :=
  if back < 0 ∨ 9 < back ∨ (back = 0 ∧ off ≠ 0) then 1
  else if off % 4096 ≠ 0 then 2
  else if off < 0 ∨ 1099511627776 - size < off then 4 else 0

/-! mapping -/
def mayList (l : List Area) : Bool := right l && decide (l.length ≤ 24)
def failed (l : List Area) (e : Int) : List Area × Answer := (l, Answer.error e)
def kept (was now : List Area) (v : Int) : List Area × Answer := if 24 < now.length then failed was 9 else (now, Answer.ok v)
def fixedPlace (l : List Area) (x size flags : Int) : Int × Int :=
  let (lo, hi, e) := rangeOf x size
  if e ≠ 0 then (0, e) else if bitsOf flags 2 ∧ 0 < (withinR l lo hi).length then (0, 6) else (x, 0)
def place (l : List Area) (x size flags : Int) : Int × Int :=
  if mayList l then
    if bitsOf flags 1 then fixedPlace l x size flags
    else if x ≠ 0 ∧ fits l x size then (x, 0)
    else match (if bitsOf flags 8 then lowest l 65536 2097152 size else highest l 65536 2097152 size) with
      | some at_ => (at_, 0)
      | none => (0, 5)
  else (0, 1)
/-- Flags: none that aren't allowed (those allowed are given as a number whose bits they are). -/
def flagsIn (flags allowed : Int) : Int := if flags < 0 ∨ (BitVec.ofInt 64 flags &&& ~~~ BitVec.ofInt 64 allowed) ≠ 0 then 1 else 0
def asked (c : Call) : Int × Int :=
  let (size, e) := sizeOf c.len
  let e := if e = 0 then protOf c.prot else e
  let e := if e = 0 then flagsIn c.flags 15 else e
  let e := if e = 0 ∧ bitsOf c.flags 1 = false ∧ bitsOf c.flags 2 then 1 else e
  let e := if e = 0 then backingOf c.back c.off size else e
  (size, e)
def mapCall (l : List Area) (c : Call) : List Area × Answer :=
  if mayList l then
    let (size, e) := asked c
    if e ≠ 0 then failed l e else
    let (at_, e) := place l c.addr size c.flags
    if e ≠ 0 then failed l e else
    kept l (put l ⟨at_, at_ + size, c.prot, bitsOf c.flags 4, c.back, c.off⟩) at_
  else failed l 1
def unmapCall (l : List Area) (c : Call) : List Area × Answer :=
  if mayList l then
    let (lo, hi, e) := rangeOf c.addr c.len
    if e ≠ 0 then failed l e else kept l (cut l lo hi) 0
  else failed l 1

/-! protect -/
def protectCall (l : List Area) (c : Call) : List Area × Answer :=
  if mayList l then
    let (lo, hi, e) := rangeOf c.addr c.len
    let e := if e = 0 then protOf c.prot else e
    let e := if e = 0 ∧ covered l lo hi = false then 7 else e
    if e ≠ 0 then failed l e else kept l (setProt l lo hi c.prot) 0
  else failed l 1
def faultCall (l : List Area) (c : Call) : Answer :=
  if mayList l = false ∨ c.prot < 1 ∨ 7 < c.prot then Answer.error 1
  else match find l c.addr with
    | none => Answer.error 7
    | some a => if mayKind a c.prot then ⟨0, 0, (attrAt a c.addr).1⟩ else Answer.error 8

/-! remap -/
def remapFlags (f : Int) : Int := if flagsIn f 49 ≠ 0 then flagsIn f 49 else if bitsOf f 16 = false ∧ (bitsOf f 1 ∨ bitsOf f 32) then 1 else 0
def remapMove (l : List Area) (c : Call) (lo hi size : Int) (old : Area) (at_ : Int) : List Area × Answer :=
  kept l (put (if bitsOf c.flags 32 then l else cut l lo hi) { old with start := at_, stop := at_ + size }) at_
def remapAway (l : List Area) (c : Call) (lo hi size : Int) (old : Area) : List Area × Answer :=
  let (at_, e) := place l 0 size 0
  if e ≠ 0 then failed l e else remapMove l c lo hi size old at_
def remapLong (old : Area) (size : Int) : Bool := decide (old.back ≠ 0) && decide (1099511627776 - size < old.off)
def remapFixed (l : List Area) (c : Call) (lo hi size : Int) (old : Area) : List Area × Answer :=
  let (l2, h2, e) := rangeOf c.to c.new
  if e ≠ 0 then failed l e
  else if l2 < hi ∧ lo < h2 then failed l 1
  else if remapLong old size then failed l 4
  else remapMove l c lo hi size old l2
def remapGrow (l : List Area) (c : Call) (lo hi size : Int) (old whole_ : Area) : List Area × Answer :=
  if remapLong old size then failed l 4
  else if whole_.stop = hi ∧ fits l hi (size - (hi - lo)) then kept l (put l { old with stop := lo + size }) lo
  else if bitsOf c.flags 16 then remapAway l c lo hi size old
  else failed l 5
def remapCall (l : List Area) (c : Call) : List Area × Answer :=
  if mayList l then
    let e := remapFlags c.flags
    let (lo, hi, e) := if e = 0 then rangeOf c.addr c.len else (0, 0, e)
    let (size, e) := if e = 0 then sizeOf c.new else (0, e)
    let e := if e = 0 ∧ bitsOf c.flags 32 ∧ size ≠ hi - lo then 1 else e
    if e ≠ 0 then failed l e else
    match find l lo with
    | none => failed l 7
    | some w =>
      if w.stop < hi then failed l 7 else
      let old := (part w lo hi).getD Area.zero
      if bitsOf c.flags 1 then remapFixed l c lo hi size old
      else if bitsOf c.flags 32 then remapAway l c lo hi size old
      else if size ≤ hi - lo then kept l (cut l (lo + size) hi) lo
      else remapGrow l c lo hi size old w
  else failed l 1

/-! brk -/
def rightBreak (n : Int) : Bool := decide (65536 ≤ n) && decide (n ≤ 327680)
def brkWrong (l : List Area) (now want : Int) : Int :=
  if mayList l = false ∨ rightBreak now = false then 1
  else if want = 0 then 0
  else if rightBreak want = false then 4
  else if upPage now < upPage want ∧ fits l (upPage now) (upPage want - upPage now) = false then 5 else 0
def brkMoved (l : List Area) (from_ to_ : Int) : List Area :=
  if from_ < to_ then put l ⟨from_, to_, 3, false, 0, 0⟩ else if to_ < from_ then cut l to_ from_ else l
def brkCall (l : List Area) (now : Int) (c : Call) : List Area × Int × Answer :=
  if brkWrong l now c.addr ≠ 0 then (l, now, Answer.error (brkWrong l now c.addr))
  else if c.addr = 0 then (l, now, Answer.ok now)
  else
    let (next, a) := kept l (brkMoved l (upPage now) (upPage c.addr)) c.addr
    if a.err ≠ 0 then (next, now, a) else (next, c.addr, a)

/-! change -/
structure Space where
  areas : List Area
  brk : Int
  deriving DecidableEq
def Space.start : Space := ⟨[], 65536⟩
def rightSpace (s : Space) : Bool := right s.areas && decide (s.areas.length ≤ 24) && rightBreak s.brk
def changeDo (s : Space) (c : Call) : Space × Answer :=
  if rightSpace s then
    if c.kind = 0 then let r := mapCall s.areas c; (⟨r.1, s.brk⟩, r.2)
    else if c.kind = 1 then let r := unmapCall s.areas c; (⟨r.1, s.brk⟩, r.2)
    else if c.kind = 2 then let r := protectCall s.areas c; (⟨r.1, s.brk⟩, r.2)
    else if c.kind = 3 then let r := remapCall s.areas c; (⟨r.1, s.brk⟩, r.2)
    else if c.kind = 4 then let r := brkCall s.areas s.brk c; (⟨r.1, r.2.1⟩, r.2.2)
    else if c.kind = 5 then (s, faultCall s.areas c)
    else (s, Answer.error 1)
  else (s, Answer.error 1)
end Samara
