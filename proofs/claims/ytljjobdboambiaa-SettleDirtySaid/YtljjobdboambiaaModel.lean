/- The plain model of the program: cells, slots, trails, and tasks as trees of accesses. Nothing of Go stands here. -/
namespace Samara

/-- An access of a task. -/
inductive Cmd where
  | load (i : Int)
  | store (i v : Int)
  | add (i d : Int)
  | wait (i v : Int)
  deriving DecidableEq

/-- What a number becomes in 64 bits. -/
def w64 (n : Int) : Int := (n + 9223372036854775808) % 18446744073709551616 - 9223372036854775808

/-- A memory: its cells, and how many accesses there were. -/
structure Mm where
  cells : List Int
  count : Int

def inM (n : Nat) (i : Int) : Bool := decide (0 ≤ i) && decide (i < (n : Int))

/-- An access: what it is told, whether it ends, the memory behind it. -/
def exec (m : Mm) : Cmd → Int × Bool × Mm
  | .load i => if inM m.cells.length i then (m.cells.getD i.toNat 0, true, { m with count := w64 (m.count + 1) }) else (0, true, m)
  | .store i v => if inM m.cells.length i then (0, true, { cells := m.cells.set i.toNat v, count := w64 (m.count + 1) }) else (0, true, m)
  | .add i d =>
    if inM m.cells.length i then
      (m.cells.getD i.toNat 0, true, { cells := m.cells.set i.toNat (w64 (m.cells.getD i.toNat 0 + d)), count := w64 (m.count + 1) })
    else (0, true, m)
  | .wait i v =>
    if inM m.cells.length i then (m.cells.getD i.toNat 0, decide (m.cells.getD i.toNat 0 = v), { m with count := w64 (m.count + 1) })
    else (0, false, m)

/-- Some cells, without an access. -/
def lookAt (l : List Int) (i n : Int) : List Int :=
  (l.drop (min (max i 0) l.length).toNat).take (min (max n 0) (l.length - min (max i 0) l.length)).toNat

/-- A trail. -/
structure Tr where
  told : List Int
  pos : Nat
  done : Bool
  dry : Bool
  fresh : Bool
  over : Bool
  time : Int
  marks : List (Int × Int)

/-- Slots, with what became of them: a generation, and whether it is live. -/
structure Ar where
  slots : List (Int × Bool)
  stale : Bool
  double : Bool

/-- A land's numbers that stay: the first slot's cell, how many slots, N. -/
structure Cfg where
  first : Nat
  slots : Nat
  n : Nat

structure St where
  tr : Tr
  mm : Mm
  ar : Ar

/-- An access of a trail. -/
def acc (c : Cmd) (s : St) : Int × St :=
  if s.tr.dry then (0, { s with tr := { s.tr with fresh := false } })
  else if s.tr.pos < s.tr.told.length then
    (s.tr.told.getD s.tr.pos 0, { s with tr := { s.tr with fresh := false, pos := s.tr.pos + 1 } })
  else if s.tr.done then (0, { s with tr := { s.tr with fresh := false, dry := true } })
  else
    match exec s.mm c with
    | (v, true, m) => (v, { s with mm := m, tr := { s.tr with fresh := true, done := true, told := s.tr.told ++ [v], pos := s.tr.pos + 1 } })
    | (_, false, m) => (0, { s with mm := m, tr := { s.tr with fresh := true, done := true, dry := true } })

def slotOf (h : Int) : Int := if h < 0 then 0 else h % 65536
def hasSlot (n : Nat) (s : Int) : Bool := decide (1 ≤ s) && decide (s ≤ (n : Int))
def handleOf (g s : Int) : Int := w64 (g * 65536 + s)

def cellOf (c : Cfg) (h word : Int) : Int :=
  if hasSlot c.slots (slotOf h) && decide (0 ≤ word) && decide (word < 28) then (c.first : Int) + (slotOf h - 1) * 28 + word else -1

def Ar.at (a : Ar) (s : Int) : Int × Bool := a.slots.getD (s - 1).toNat (0, false)
def Ar.right (a : Ar) (h : Int) : Bool :=
  hasSlot a.slots.length (slotOf h) && (a.at (slotOf h)).2 && decide (handleOf (a.at (slotOf h)).1 (slotOf h) = h)
def Ar.touch (a : Ar) (h : Int) : Ar := if a.right h then a else { a with stale := true }
def Ar.born (a : Ar) (s : Int) : Int × Ar :=
  if hasSlot a.slots.length s then
    (handleOf (w64 ((a.at s).1 + 1)) s,
      { a with double := a.double || (a.at s).2, slots := a.slots.set (s - 1).toNat (w64 ((a.at s).1 + 1), true) })
  else (0, a)
def Ar.died (a : Ar) (h : Int) : Ar :=
  if a.right h then { a with slots := a.slots.set (slotOf h - 1).toNat ((a.at (slotOf h)).1, false) } else { a with double := true }
/-- The handles of the slots that are live, from a number on. -/
def liveFrom : Int → List (Int × Bool) → List Int
  | _, [] => []
  | i, x :: l => if x.2 then handleOf x.1 i :: liveFrom (i + 1) l else liveFrom (i + 1) l
def Ar.live (a : Ar) : List Int := liveFrom 1 a.slots

/-- A task's code, as a tree. -/
inductive Tk (α : Type) where
  | ret (a : α)
  | acc (c : Cmd) (k : Int → Tk α)
  | isDry (k : Bool → Tk α)
  | mark (kind : Int) (k : Tk α)
  | touch (h : Int) (k : Tk α)
  | born (s : Int) (k : Tk α)
  | died (h : Int) (k : Tk α)

namespace Tk
variable {α β γ : Type}

def bind : Tk α → (α → Tk β) → Tk β
  | .ret a, f => f a
  | .acc c k, f => .acc c fun v => (k v).bind f
  | .isDry k, f => .isDry fun b => (k b).bind f
  | .mark n k, f => .mark n (k.bind f)
  | .touch h k, f => .touch h (k.bind f)
  | .born s k, f => .born s (k.bind f)
  | .died h k, f => .died h (k.bind f)

instance : Monad Tk where
  pure := Tk.ret
  bind := Tk.bind

/-- A task's code is run on a trail. -/
def run : Tk α → St → α × St
  | .ret a, s => (a, s)
  | .acc c k, s => let r := Samara.acc c s; (k r.1).run r.2
  | .isDry k, s => (k (s.tr.dry && !s.tr.over)).run s
  | .mark n k, s => k.run (if s.tr.fresh && !s.tr.dry then { s with tr := { s.tr with marks := s.tr.marks ++ [(n, s.tr.time)] } } else s)
  | .touch h k, s => k.run (if s.tr.fresh then { s with ar := s.ar.touch h } else s)
  | .born x k, s => k.run (if s.tr.fresh then { s with ar := (s.ar.born x).2 } else s)
  | .died h k, s => k.run (if s.tr.fresh then { s with ar := s.ar.died h } else s)

theorem run_bind (t : Tk α) (f : α → Tk β) (s : St) : (t.bind f).run s = (f (t.run s).1).run (t.run s).2 := by
  induction t generalizing s with
  | ret a => rfl
  | acc c k ih => simp only [bind, run]; exact ih _ _
  | isDry k ih => simp only [bind, run]; exact ih _ _
  | mark n k ih => simp only [bind, run]; exact ih _
  | touch h k ih => simp only [bind, run]; exact ih _
  | born x k ih => simp only [bind, run]; exact ih _
  | died h k ih => simp only [bind, run]; exact ih _

def load (i : Int) : Tk Int := .acc (.load i) .ret
def store (i v : Int) : Tk Unit := .acc (.store i v) fun _ => .ret ()
def add (i d : Int) : Tk Int := .acc (.add i d) .ret
def wait (i v : Int) : Tk Unit := .acc (.wait i v) fun _ => .ret ()
def dry : Tk Bool := .isDry .ret
def markAt (n : Int) : Tk Unit := .mark n (.ret ())
def touchIf (h : Int) : Tk Unit := .touch h (.ret ())
end Tk

end Samara
