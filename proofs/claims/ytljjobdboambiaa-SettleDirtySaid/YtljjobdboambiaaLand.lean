/- The land's blocks: a memory with its cells, an arena with its slots; what the functions of cell and arena do to them. -/
import Derived.Test.YtljjobdboambiaaWords
import Derived.Test.YtljjobdboambiaaModel
namespace Go.Proofs.Ytljjobdboambiaa
open Go.RowKit Samara

/-- ErrArg, unless. -/
def errUnless (b : Bool) : Int := if b then 0 else 1
theorem w64_eq (n : Int) : w64 n = wrap64 n := by unfold w64 wrap64; rfl

/-- Where a land lies: itself, its memory, the cells, its arena, the slots. -/
structure Adr where
  l : Nat
  m : Nat
  c : Nat
  a : Nat
  s : Nat

def slotCells (l : List (Int × Bool)) : List Value := l.flatMap fun x => [.int .i64 x.1, .bool x.2]

/-- A memory. -/
structure MemIs (w : World) (m c : Nat) (M : Mm) : Prop where
  m : Blk w m 66 #[.slice (some ⟨c, 0, none⟩) M.cells.length M.cells.length, .int .i64 M.count]
  c : Blk w c 2 (ints M.cells).toArray
  len : M.cells.length ≤ 65536
/-- An arena. -/
structure ArenaIs (w : World) (a s : Nat) (first : Nat) (R : Ar) : Prop where
  a : Blk w a 50 #[.int .i64 first, .slice (some ⟨s, 0, none⟩) R.slots.length R.slots.length, .bool R.stale, .bool R.double]
  s : Blk w s 47 (slotCells R.slots).toArray
  len : R.slots.length ≤ 1000
  first : first ≤ 65536

theorem slotCells_length (l : List (Int × Bool)) : (slotCells l).length = l.length * 2 := by
  induction l with
  | nil => rfl
  | cons x l ih => simp only [slotCells, List.flatMap_cons, List.length_append, List.length_cons, List.length_nil] at ih ⊢; omega
theorem slotCells_gen (l : List (Int × Bool)) : ∀ i, i < l.length → (slotCells l)[i * 2]? = some (.int .i64 (l.getD i (0, false)).1) ∧ (slotCells l)[i * 2 + 1]? = some (.bool (l.getD i (0, false)).2) := by
  induction l with
  | nil => intro i h; simp at h
  | cons x l ih =>
    intro i h
    rcases i with _ | i
    · exact ⟨rfl, rfl⟩
    · have h' := ih i (by simpa using h)
      have e1 : (i + 1) * 2 = i * 2 + 2 := by omega
      refine ⟨?_, ?_⟩
      · rw [e1]; simpa [slotCells] using h'.1
      · rw [e1]; simpa [slotCells] using h'.2
theorem slotCells_set (l : List (Int × Bool)) : ∀ i x, i < l.length → slotCells (l.set i x) = ((slotCells l).set (i * 2) (.int .i64 x.1)).set (i * 2 + 1) (.bool x.2) := by
  induction l with
  | nil => intro i x h; simp at h
  | cons y l ih =>
    intro i x h
    rcases i with _ | i
    · rfl
    · have h' := ih i x (by simpa using h)
      have e1 : (i + 1) * 2 = i * 2 + 2 := by omega
      have e2 : (i + 1) * 2 + 1 = i * 2 + 1 + 2 := by omega
      rw [e1]
      simp only [slotCells, List.set_cons_succ, List.flatMap_cons, List.cons_append, List.nil_append] at h' ⊢
      rw [h']

section
variable {w w' : World} {m c a s : Nat} {M : Mm} {R : Ar} {first : Nat} {F : Nat → Prop}
theorem MemIs.keep (h : MemIs w m c M) (hk : Kp F w w') (hm : ¬ F m) (hc : ¬ F c) : MemIs w' m c M := ⟨h.m.keep hk hm, h.c.keep hk hc, h.len⟩
theorem ArenaIs.keep (h : ArenaIs w a s first R) (hk : Kp F w w') (ha : ¬ F a) (hs : ¬ F s) : ArenaIs w' a s first R := ⟨h.a.keep hk ha, h.s.keep hk hs, h.len, h.first⟩
theorem MemIs.c0 (h : MemIs w m c M) : w.cell? ⟨m, 0, none⟩ = some (.slice (some ⟨c, 0, none⟩) M.cells.length M.cells.length) := h.m.cell 0
theorem MemIs.c1 (h : MemIs w m c M) : w.cell? ⟨m, 1, none⟩ = some (.int .i64 M.count) := h.m.cell 1
theorem MemIs.at_ (h : MemIs w m c M) {i : Nat} (hi : i < M.cells.length) : w.cell? ⟨c, i, none⟩ = some (.int .i64 (M.cells.getD i 0)) := by
  rw [h.c.cell i]
  simp [ints, hi]
theorem MemIs.ne (h : MemIs w m c M) : m ≠ c := h.m.ne_ h.c (by decide)
theorem ArenaIs.ne (h : ArenaIs w a s first R) : a ≠ s := h.a.ne_ h.s (by decide)
theorem ArenaIs.c0 (h : ArenaIs w a s first R) : w.cell? ⟨a, 0, none⟩ = some (.int .i64 first) := h.a.cell 0
theorem ArenaIs.c1 (h : ArenaIs w a s first R) : w.cell? ⟨a, 1, none⟩ = some (.slice (some ⟨s, 0, none⟩) R.slots.length R.slots.length) := h.a.cell 1
theorem ArenaIs.c2 (h : ArenaIs w a s first R) : w.cell? ⟨a, 2, none⟩ = some (.bool R.stale) := h.a.cell 2
theorem ArenaIs.c3 (h : ArenaIs w a s first R) : w.cell? ⟨a, 3, none⟩ = some (.bool R.double) := h.a.cell 3
theorem ArenaIs.gen (h : ArenaIs w a s first R) {i : Nat} (hi : i < R.slots.length) : w.cell? ⟨s, i * 2, none⟩ = some (.int .i64 (R.slots.getD i (0, false)).1) := by
  rw [h.s.cell]
  simpa using (slotCells_gen R.slots i hi).1
theorem ArenaIs.live (h : ArenaIs w a s first R) {i : Nat} (hi : i < R.slots.length) : w.cell? ⟨s, i * 2 + 1, none⟩ = some (.bool (R.slots.getD i (0, false)).2) := by
  rw [h.s.cell]
  simpa using (slotCells_gen R.slots i hi).2
/-- The count is raised. -/
theorem MemIs.counted (h : MemIs w m c M) (n : Int) : MemIs (w.setCell ⟨m, 1, none⟩ (.int .i64 n)) m c { M with count := n } :=
  ⟨by simpa using h.m.set_ 1 (.int .i64 n), h.c.far (by simpa using h.ne.symm) _, h.len⟩
theorem MemIs.stored (h : MemIs w m c M) (i : Nat) (v : Int) : MemIs (w.setCell ⟨c, i, none⟩ (.int .i64 v)) m c { M with cells := M.cells.set i v } := by
  have e : ints (M.cells.set i v) = (ints M.cells).set i (.int .i64 v) := by simp [ints, List.map_set]
  refine ⟨?_, ?_, by simpa using h.len⟩
  · simp only [List.length_set]
    exact h.m.far (by simpa using h.ne) _
  · simp only [e]
    simpa using h.c.set_ i (.int .i64 v)
end

/-! ### cell -/
set_option maxHeartbeats 400000 in
theorem at_in (w : World) (m c : Nat) (M : Mm) (i : Nat) (hi : i < M.cells.length) (h : MemIs w m c M) :
    Calls Try.prog 22 #[.pointer (some ⟨m, 0, none⟩), .int .i64 i] w fun e w' => e = .returned (.pointer (some ⟨c, i, none⟩)) ∧
      w.setCell ⟨m, 1, none⟩ (.int .i64 (wrap64 (M.count + 1))) = w' := by
  have hm0 := h.c0
  have hm1 := h.c1
  have hmf := h.m.frozen 1
  have hl := h.len
  go_enter Try.func22, Try.ntmps22
  go_wp2
  go_ret
  exact ⟨rfl, rfl⟩
set_option maxHeartbeats 400000 in
theorem at_out (w : World) (m c : Nat) (M : Mm) (i : Int) (hi : i < 0 ∨ (M.cells.length : Int) ≤ i) (h : MemIs w m c M) :
    Calls Try.prog 22 #[.pointer (some ⟨m, 0, none⟩), .int .i64 i] w fun e w' => e = .returned (.pointer none) ∧ w = w' := by
  have hm0 := h.c0
  have hl := h.len
  rcases hi with hi | hi
  · go_enter Try.func22, Try.ntmps22
    go_wp2
    go_ret
    exact ⟨rfl, rfl⟩
  · have hi0 : ¬ i < 0 := by omega
    go_enter Try.func22, Try.ntmps22
    go_wp2
    go_ret
    exact ⟨rfl, rfl⟩
set_option maxHeartbeats 400000 in
theorem memStore (w : World) (m c : Nat) (M : Mm) (i v : Int) (h : MemIs w m c M) :
    Calls Try.prog 8 #[.pointer (some ⟨m, 0, none⟩), .int .i64 i, .int .i64 v] w fun e w' =>
      e = .returned (.int .i64 (errUnless (inM M.cells.length i))) ∧ MemIs w' m c (exec M (.store i v)).2.2 ∧ Kp (fun b => b = m ∨ b = c) w w' := by
  by_cases hi : 0 ≤ i ∧ i < (M.cells.length : Int)
  · have hin : inM M.cells.length i = true := by simp [inM, hi.1, hi.2]
    obtain ⟨k, rfl⟩ : ∃ k : Nat, i = k := ⟨i.toNat, by omega⟩
    have hk : k < M.cells.length := by omega
    have hc := (h.counted (wrap64 (M.count + 1))).at_ hk
    have hf := (h.counted (wrap64 (M.count + 1))).c.frozen k
    have hw := w64_eq (M.count + 1)
    have H := Lib.hid hin
    have H2 := Lib.hid hw
    clear hin hi hw
    go_enter Try.func8, Try.ntmps8
    go_wp2_with (go_at_call 22; refine (at_in _ _ _ M k hk h).mono ?_; rintro e w' ⟨rfl, rfl⟩)
    go_ret
    refine ⟨by rw [H.out]; rfl, ?_, ?_⟩
    · have := (h.counted (wrap64 (M.count + 1))).stored k v
      simpa [exec, H.out, H2.out] using this
    · exact ((Kp.refl _ _).setCell (.inl (.inl rfl)) _).setCell (.inl (.inr rfl)) _
  · have hin : inM M.cells.length i = false := by
      simp only [inM, Bool.and_eq_false_iff, decide_eq_false_iff_not]
      omega
    have ho : i < 0 ∨ (M.cells.length : Int) ≤ i := by omega
    have H := Lib.hid hin
    have H2 := Lib.hid ho
    clear hin hi ho
    go_enter Try.func8, Try.ntmps8
    go_wp2_with (go_at_call 22; refine (at_out _ _ _ M i H2.out h).mono ?_; rintro e w' ⟨rfl, rfl⟩)
    go_ret
    refine ⟨by rw [H.out]; rfl, by simpa [exec, H.out] using h, Kp.refl _ _⟩
end Go.Proofs.Ytljjobdboambiaa
