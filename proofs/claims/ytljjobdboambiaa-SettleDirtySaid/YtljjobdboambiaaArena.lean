/- What the functions of cell and arena do, the rest of them. -/
import Derived.Test.YtljjobdboambiaaLand
namespace Go.Proofs.Ytljjobdboambiaa
open Go.RowKit Samara

theorem infoInt : (Try.prog.info? 2).map (fun i => (i.zero, i.size, i.bytes)) = some (some (.int .i64 0), 1, 8) := by kernel_rfl
theorem infoState : (Try.prog.info? 47).map (fun i => (i.zero, i.size, i.bytes)) = some (some (.agg #[.int .i64 0, .bool false]), 2, 16) := by kernel_rfl

theorem make_ints (n : Nat) (hn : n ≤ 1000000) (w : World) :
    (Instr.makeSlice 34 (.int .i64 (n : Int)) (.int .i64 (n : Int))).run Try.prog w = .ok (.slice (some ⟨w.heap.size, 0, none⟩) n n) (w.alloc (.cells (ints (List.replicate n 0)).toArray 2)) := by
  obtain ⟨i0, hi, hz0, hz1, hz2⟩ := info_parts infoInt
  have hr := run_make (P := Try.prog) w 34 2 i0 _ Try.underlying34 hi hz0 .i64 .i64 (n : Int) n (by omega) (Int.le_refl _) (by rw [hz2]; omega) (by omega)
  rw [hr, hz1]
  have e : madeCells (Value.int IntKind.i64 0).cells ((n : Int).toNat * 1) = (ints (List.replicate n 0)).toArray := by
    apply Array.ext'
    have := toList_madeCells_one (.int .i64 0) n
    simpa [ints, Value.cells] using this
  rw [e]
  simp

theorem made_two (x y : Value) (n : Nat) : (madeCells #[x, y] (n * 2)).toList = (List.replicate n [x, y]).flatten := by
  apply List.ext_getElem?
  intro j
  by_cases hj : j < n * 2
  · have e : ((List.replicate n [x, y]).flatten)[j]? = some (if j % 2 = 0 then x else y) := by
      induction n generalizing j with
      | zero => omega
      | succ n ih =>
        rcases j with _ | _ | j
        · rfl
        · rfl
        · rw [List.replicate_succ, List.flatten_cons]
          have := ih j (by omega)
          simpa [show (j + 1 + 1) % 2 = j % 2 by omega] using this
    rw [e]
    simp only [madeCells, Array.toList_map, List.getElem?_map, Array.toList_range, List.getElem?_range hj, Option.map_some]
    congr 1
    rcases Nat.mod_two_eq_zero_or_one j with h | h
    · simp [h]
    · simp [h]
  · have h1 : (madeCells #[x, y] (n * 2)).toList.length ≤ j := by simp [madeCells]; omega
    have h2 : ((List.replicate n [x, y]).flatten).length ≤ j := by simp; omega
    rw [List.getElem?_eq_none h1, List.getElem?_eq_none h2]

theorem make_states (n : Nat) (hn : n ≤ 1000) (w : World) :
    (Instr.makeSlice 48 (.int .i64 (n : Int)) (.int .i64 (n : Int))).run Try.prog w =
      .ok (.slice (some ⟨w.heap.size, 0, none⟩) n n) (w.alloc (.cells (slotCells (List.replicate n (0, false))).toArray 47)) := by
  obtain ⟨i0, hi, hz0, hz1, hz2⟩ := info_parts infoState
  have hr := run_make (P := Try.prog) w 48 47 i0 _ Try.underlying48 hi hz0 .i64 .i64 (n : Int) n (by omega) (Int.le_refl _) (by rw [hz2]; omega) (by omega)
  rw [hr, hz1]
  have e : madeCells (Value.agg #[.int .i64 0, .bool false]).cells ((n : Int).toNat * 2) = (slotCells (List.replicate n (0, false))).toArray := by
    apply Array.ext'
    have := made_two (.int .i64 0) (.bool false) n
    simp only [Int.toNat_natCast, Value.cells, this, slotCells, List.flatMap_replicate]
  rw [e]
  simp

def Mm.new (n : Nat) : Mm := ⟨List.replicate n 0, 0⟩
def Ar.new (n : Nat) : Ar := ⟨List.replicate n (0, false), false, false⟩

set_option maxHeartbeats 400000 in
theorem cellNew (n : Nat) (hn : n ≤ 65536) (w : World) :
    Calls Try.prog 10 #[.int .i64 n] w fun e w' => ∃ m c, e = .returned (.pointer (some ⟨m, 0, none⟩)) ∧ MemIs w' m c (Mm.new n) ∧ w.heap.size ≤ m ∧ w.heap.size ≤ c ∧ Kp (fun _ => False) w w' := by
  have hmk := make_ints n (by omega)
  have h1 : (65536 : Int) ≥ n := by omega
  go_enter Try.func10, Try.ntmps10
  go_wp2
  refine bodyPost_ret (results_tmp rfl _ _ _) rfl ⟨w.heap.size + 1, w.heap.size, rfl, ⟨?_, ?_, by simpa [Mm.new] using hn⟩, by omega, by omega, ((Kp.refl _ _).alloc _).alloc _⟩
  · have := Blk.new (w.alloc (.cells (ints (List.replicate n 0)).toArray 2)) 66 #[.slice (some ⟨w.heap.size, 0, none⟩) n n, .int .i64 0]
    simpa [Mm.new] using this
  · rw [show (ints (Mm.new n).cells).toArray = Array.replicate n (Value.int .i64 0) by simp [Mm.new, ints]]
    exact (Blk.new w _ _).alloc _
set_option maxHeartbeats 400000 in
theorem arenaNew (first n : Nat) (hf : first ≤ 65536) (hn : n ≤ 1000) (w : World) :
    Calls Try.prog 11 #[.int .i64 first, .int .i64 n] w fun e w' => ∃ a s, e = .returned (.pointer (some ⟨a, 0, none⟩)) ∧ ArenaIs w' a s first (Ar.new n) ∧ w.heap.size ≤ a ∧ w.heap.size ≤ s ∧ Kp (fun _ => False) w w' := by
  have hmk := make_states n (by omega)
  have h1 : (65536 : Int) ≥ first := by omega
  have h2 : (1000 : Int) ≥ n := by omega
  go_enter Try.func11, Try.ntmps11
  go_wp2
  refine bodyPost_ret (results_tmp rfl _ _ _) rfl ⟨w.heap.size + 1, w.heap.size, rfl, ⟨?_, ?_, by simpa [Ar.new] using hn, hf⟩, by omega, by omega, ((Kp.refl _ _).alloc _).alloc _⟩
  · have := Blk.new (w.alloc (.cells (slotCells (List.replicate n (0, false))).toArray 47)) 50 #[.int .i64 first, .slice (some ⟨w.heap.size, 0, none⟩) n n, .bool false, .bool false]
    simpa [Ar.new] using this
  · exact (Blk.new w _ _).alloc _

/-! ### arena -/
theorem and_mask (h : Int) (h0 : 0 ≤ h) (h1 : h ≤ 9223372036854775807) : bits .and .i64 h 65535 = h % 65536 := by
  obtain ⟨n, rfl⟩ : ∃ n : Nat, h = n := ⟨h.toNat, by omega⟩
  have hx : n &&& 65535 = n % 65536 := Nat.and_two_pow_sub_one_eq_mod n 16
  have hb : ∀ a : Nat, a < 9223372036854775808 → (BitVec.ofInt 64 (a : Int)).toNat = a := fun a ha => by
    rw [BitVec.ofInt_natCast, BitVec.toNat_ofNat]; exact Nat.mod_eq_of_lt (by omega)
  show IntKind.i64.wrap ((BitVec.ofInt 64 (n : Int) &&& BitVec.ofInt 64 ((65535 : Nat) : Int)).toNat : Int) = _
  rw [BitVec.toNat_and, hb n (by omega), hb 65535 (by omega), hx, IntKind.wrap_i64]
  omega
set_option maxHeartbeats 400000 in
theorem slot_any (h : Int) (hh : I64 h) (w : World) : Calls Try.prog 20 #[.int .i64 h] w fun e w' => e = .returned (.int .i64 (slotOf h)) ∧ w = w' := by
  by_cases hn : h < 0
  · have e : slotOf h = 0 := by simp [slotOf, hn]
    have H := Lib.hid e
    clear e hh
    go_enter Try.func20, Try.ntmps20
    go_wp2
    go_ret
    exact ⟨by rw [H.out]; rfl, rfl⟩
  · have e : slotOf h = bits .and .i64 h 65535 := by rw [and_mask h (by omega) hh.2]; simp [slotOf, hn]
    have H := Lib.hid e
    have hn' : 0 ≤ h := by omega
    clear e hh hn
    go_enter Try.func20, Try.ntmps20
    go_wp2
    go_ret
    exact ⟨by rw [H.out]; rfl, rfl⟩
theorem slotOf_range (h : Int) : 0 ≤ slotOf h ∧ slotOf h < 65536 := by unfold slotOf; split <;> omega
set_option maxHeartbeats 400000 in
theorem has_any (a s : Nat) (first : Nat) (R : Ar) (n : Int) (w : World) (h : ArenaIs w a s first R) :
    Calls Try.prog 15 #[.pointer (some ⟨a, 0, none⟩), .int .i64 n] w fun e w' => e = .returned (.bool (hasSlot R.slots.length n)) ∧ w = w' := by
  have hc := h.c1
  have hl := h.len
  by_cases hn : 1 ≤ n
  · have e : hasSlot R.slots.length n = decide (n ≤ (R.slots.length : Int)) := by simp [hasSlot, hn]
    have H := Lib.hid e
    clear e
    go_enter Try.func15, Try.ntmps15
    go_wp2
    go_ret
    exact ⟨by rw [H.out]; rfl, rfl⟩
  · have e : hasSlot R.slots.length n = false := by simp [hasSlot, hn]
    have H := Lib.hid e
    clear e
    go_enter Try.func15, Try.ntmps15
    go_wp2
    go_ret
    exact ⟨by rw [H.out]; rfl, rfl⟩
def cfgOf (first : Nat) (n : Nat) : Cfg := ⟨first, n, n⟩
set_option maxHeartbeats 400000 in
theorem cell_any (a s : Nat) (first : Nat) (R : Ar) (hd word : Int) (hh : I64 hd) (w : World) (h : ArenaIs w a s first R) :
    Calls Try.prog 13 #[.pointer (some ⟨a, 0, none⟩), .int .i64 hd, .int .i64 word] w fun e w' => e = .returned (.int .i64 (cellOf (cfgOf first R.slots.length) hd word)) ∧ w = w' := by
  have hc := h.c0
  have hl := h.len
  have hf := h.first
  have hs := slotOf_range hd
  by_cases hn : hasSlot R.slots.length (slotOf hd) = true
  · have hn' := hn
    simp only [hasSlot, Bool.and_eq_true, decide_eq_true_eq] at hn'
    by_cases h1 : 0 ≤ word ∧ word < 28
    · have e : cellOf (cfgOf first R.slots.length) hd word = (first : Int) + (slotOf hd - 1) * 28 + word := by simp [cellOf, cfgOf, hn, h1.1, h1.2]
      have H := Lib.hid e
      have HN := Lib.hid hn
      clear e hn
      go_enter Try.func13, Try.ntmps13
      go_wp2_with (first
        | (go_at_call 20; refine (slot_any hd hh _).mono ?_; rintro e w' ⟨rfl, rfl⟩)
        | (go_at_call 15; refine (has_any a s first R (slotOf hd) _ h).mono ?_; rintro e w' ⟨rfl, rfl⟩; rw [HN.out]))
      go_ret
      exact ⟨by rw [H.out]; rfl, rfl⟩
    · have e : cellOf (cfgOf first R.slots.length) hd word = -1 := by
        unfold cellOf
        rw [if_neg (by simp only [Bool.and_eq_true, decide_eq_true_eq]; omega)]
      have H := Lib.hid e
      have HN := Lib.hid hn
      clear e hn
      rcases (by omega : word < 0 ∨ (0 ≤ word ∧ 28 ≤ word)) with h2 | h2
      all_goals
        go_enter Try.func13, Try.ntmps13
        go_wp2_with (first
          | (go_at_call 20; refine (slot_any hd hh _).mono ?_; rintro e w' ⟨rfl, rfl⟩)
          | (go_at_call 15; refine (has_any a s first R (slotOf hd) _ h).mono ?_; rintro e w' ⟨rfl, rfl⟩; rw [HN.out]))
        go_ret
        exact ⟨by rw [H.out]; rfl, rfl⟩
  · have e : cellOf (cfgOf first R.slots.length) hd word = -1 := by simp [cellOf, cfgOf, hn]
    have hn2 : hasSlot R.slots.length (slotOf hd) = false := by simpa using hn
    have H := Lib.hid e
    have HN := Lib.hid hn2
    clear e hn hn2
    go_enter Try.func13, Try.ntmps13
    go_wp2_with (first
      | (go_at_call 20; refine (slot_any hd hh _).mono ?_; rintro e w' ⟨rfl, rfl⟩)
      | (go_at_call 15; refine (has_any a s first R (slotOf hd) _ h).mono ?_; rintro e w' ⟨rfl, rfl⟩; rw [HN.out]))
    go_ret
    exact ⟨by rw [H.out]; rfl, rfl⟩
end Go.Proofs.Ytljjobdboambiaa
