/- slices.Clone, slices.Equal over []int64; a memory's Look. -/
import Derived.Test.YtljjobdboambiaaArena2
import Derived.Lib.SliceRun
import Derived.Deep.QuietTactic
import Derived.BigQuiet
import Derived.StillTailTactics
namespace Go.Proofs.Ytljjobdboambiaa
open Go.RowKit Samara

set_option maxHeartbeats 400000 in
theorem clone_ints (A : Option Addr) (n c : Nat) (xs : List Int) (w : World) (h : Rd w 1 A n (ints xs)) (hn : n ≤ 1000000) :
    Calls Try.prog 35 #[.slice A n c] w fun e w' => ∃ v, e = .returned v ∧ w'.ownsRow w.heap.size 2 1 v n (ints xs) ∧ Kp (fun _ => False) w w' := by
  have qT : ∀ (w : World) (a : Option Addr) (n c n' c' : Nat), (binOp .eql 34 (.slice a n c) (.slice none n' c')).run Try.prog w = .ok (.bool a.isNone) w :=
    fun w a n c n' c' => Lib.run_eql_slice_nil w _ _ a n c n' c' Try.underlying34
  obtain ⟨i0, hi, hz0, hz1, hz2⟩ := info_parts infoInt
  rcases A with _ | ad
  · have h0 : n = 0 := by
      rcases Nat.eq_zero_or_pos n with h0 | h0
      · exact h0
      · obtain ⟨ad, e, _⟩ := h.2 h0
        cases e
    subst h0
    have hx : xs = [] := List.eq_nil_of_length_eq_zero (by simpa using h.1)
    subst hx
    clear h
    go_enter Try.func35, Try.ntmps35
    go_wp2
    go_ret
    exact ⟨_, rfl, World.ownsRow_nil _ _ _ _, Kp.refl _ _⟩
  · have hown : ∀ w : World, (w.alloc (.cells #[] 2)).ownsRow w.heap.size 2 1 (.slice (some ⟨w.heap.size, 0, none⟩) 0 0) 0 [] := fun w => World.ownsRow_made w #[] 0 (Nat.le_refl _) (by decide) rfl
    have hrd : ∀ o, Rd (w.alloc o) 1 (some ad) n (ints xs) := fun o => ⟨h.1, fun hn => by
      obtain ⟨ad', e, hc⟩ := h.2 hn
      exact ⟨ad', e, fun j u hu => ((Kp.refl (fun _ => False) w).alloc o).cell (hc j u hu) (fun e => e)⟩⟩
    have HO := Lib.hid hown
    have HR := Lib.hid hrd
    clear hown hrd
    go_enter Try.func35, Try.ntmps35
    go_wp2_with (at_builtin; refine wpList_append_rd _ rfl _ _ 34 rfl w.heap.size 2 i0 (.int .i64 0) 1 8 Try.underlying34 hi hz0 hz1 hz2 rfl (by decide) _ _ _ rfl (HO.out _) _ n c (ints xs) rfl (HR.out _) ?c1 ?c2 ?c3 ?c4 ?_)
    case c1 => intro u hu; simp only [ints, List.mem_map] at hu; obtain ⟨x, _, rfl⟩ := hu; rfl
    case c2 => unfold maxLen; omega
    case c3 => omega
    case c4 => simp
    intro v' w1 hown' hgrow hblk
    have hkp1 : Kp (fun _ => False) w w1 := ((Kp.refl _ _).alloc _).grown hgrow fun g hg' => .inr (by simp [Value.ownBlock] at hg'; omega)
    clear hgrow hblk
    go_wp2
    go_ret
    exact ⟨_, rfl, by simpa using hown', hkp1⟩

set_option maxHeartbeats 1000000 in
theorem equal_ints (A B : Option Addr) (n m c d : Nat) (xs ys : List Int) (w : World) (hx : Rd w 1 A n (ints xs)) (hy : Rd w 1 B m (ints ys)) (hn : n ≤ 1000000) (hm : m ≤ 1000000) :
    Calls Try.prog 18 #[.slice A n c, .slice B m d] w fun e w' => e = .returned (.bool (decide (xs = ys))) ∧ ∃ k, w.drewN k = w' := by
  have hlx : xs.length = n := by simpa using hx.1
  have hly : ys.length = m := by simpa using hy.1
  by_cases hne : n = m
  · subst hne
    have H2 := Lib.hid hlx
    have H3 := Lib.hid hly
    clear hlx hly
    go_enter Try.func18, Try.ntmps18
    go_wp2
    go_loopw [13] (fun i wr => ∃ k : Nat, k ≤ n ∧ i = .int .i64 k ∧ xs.take k = ys.take k ∧ ∃ q, w.drewN q = wr) (fun i _ => n - (intOf i).toNat)
    case atStart => exact ⟨0, Nat.zero_le _, rfl, rfl, 0, rfl⟩
    case round =>
      obtain ⟨k, hk, rfl, htk, q, rfl⟩ := hrel
      by_cases hlt : k < n
      · obtain ⟨ad, u, rfl, hu, hcu⟩ := hx.at_ hlt
        obtain ⟨bd, v, rfl, hv, hcv⟩ := hy.at_ hlt
        have hkx : k < xs.length := by rw [H2.out]; exact hlt
        have hky : k < ys.length := by rw [H3.out]; exact hlt
        simp only [getElem?_ints, List.getElem?_eq_getElem hkx, Option.map_some, Option.some.injEq] at hu
        simp only [getElem?_ints, List.getElem?_eq_getElem hky, Option.map_some, Option.some.injEq] at hv
        subst hu hv
        have hs : xs[k] = ys[k] → xs.take (k + 1) = ys.take (k + 1) := fun e => by
          rw [List.take_succ_eq_append_getElem hkx, List.take_succ_eq_append_getElem hky, htk, e]
        have hd : xs[k] ≠ ys[k] → decide (xs = ys) = false := fun e => decide_eq_false fun e' => by subst e'; exact e rfl
        generalize xs[k] = x at hcu hs hd
        generalize ys[k] = y at hcv hs hd
        have HS := Lib.hid hs
        have HD := Lib.hid hd
        clear htk hs hd hkx hky hx hy
        by_cases hxy : x = y
        · subst hxy
          go_wp2
          go_quiet (fail)
          go_wp2
          go_roundw
          case rel => exact ⟨k + 1, by omega, by go_num, (by first | exact HS.out rfl | exact HS.out trivial), _, rfl⟩
          case measure => simp [intOf]; omega
        · have hb : (x != y) = true := by simpa using hxy
          go_wp2
          go_quiet (fail)
          go_wp2
          go_ret
          exact ⟨by rw [HD.out hxy]; rfl, _, by rw [World.drewN_drewN]⟩
      · obtain rfl : k = n := by omega
        have e : decide (xs = ys) = true := by
          rw [List.take_of_length_le (by rw [H2.out]; exact Nat.le_refl _), List.take_of_length_le (by rw [H3.out]; exact Nat.le_refl _)] at htk
          simpa using htk
        have HE := Lib.hid e
        clear e htk
        go_wp2
        go_ret
        exact ⟨by rw [HE.out]; rfl, _, rfl⟩
  · have e : decide (xs = ys) = false := decide_eq_false fun e => by subst e; omega
    have HE := Lib.hid e
    have hne' : ¬ ((n : Int) = (m : Int)) := by omega
    clear e hlx hly hx hy hne
    go_enter Try.func18, Try.ntmps18
    go_wp2
    go_ret
    exact ⟨by rw [HE.out]; rfl, 0, rfl⟩

theorem rd_sub {w : World} {c i k len : Nat} {xs : List Value} (h : ∀ j, j < len → w.cell? ⟨c, j, none⟩ = xs[j]?) (hl : xs.length = len) (hik : i + k ≤ len) :
    Rd w 1 (if len = i then some ⟨c, 0, none⟩ else some ⟨c, i, none⟩) k ((xs.drop i).take k) := by
  refine ⟨by rw [List.length_take, List.length_drop, hl]; omega, fun hk => ?_⟩
  rw [if_neg (by omega)]
  refine ⟨_, rfl, fun j u hu => ?_⟩
  have hj : j < k := by
    rcases Nat.lt_or_ge j k with h1 | h1
    · exact h1
    · rw [List.getElem?_eq_none (by rw [List.length_take]; omega)] at hu; cases hu
  rw [List.getElem?_take, if_pos hj, List.getElem?_drop] at hu
  have e : (⟨c, i, none⟩ : Addr).add j = ⟨c, i + j, none⟩ := by unfold Addr.add; split <;> simp_all
  rw [e, h _ (by omega), hu]
set_option maxHeartbeats 1000000 in
theorem memLook_k (w : World) (m c : Nat) (M : Mm) (i k : Nat) (iv n : Int) (h : MemIs w m c M) (hik : i + k ≤ M.cells.length)
    (hiv : (iv < 0 ∧ i = 0) ∨ (iv = i) ∨ ((M.cells.length : Int) < iv ∧ i = M.cells.length))
    (hn : (n < 0 ∧ k = 0) ∨ (n = k ∧ (k : Int) ≤ (M.cells.length : Int) - i) ∨ ((M.cells.length : Int) - i < n ∧ (k : Int) = (M.cells.length : Int) - i)) :
    Calls Try.prog 29 #[.pointer (some ⟨m, 0, none⟩), .int .i64 iv, .int .i64 n] w fun e w' => ∃ v, e = .returned v ∧ w'.ownsRow w.heap.size 2 1 v k (ints ((M.cells.drop i).take k)) ∧ Kp (fun _ => False) w w' := by
  have hm0 := h.c0
  have hl := h.len
  have hrd : ∀ w1 : World, Kp (fun _ => False) w w1 → ∀ A : Option Addr, A = (if M.cells.length = i then some ⟨c, 0, none⟩ else some ⟨c, i, none⟩) → Rd w1 1 A k (ints ((M.cells.drop i).take k)) := fun w1 hk A hA => by
    subst hA
    have h1 := h.keep hk (fun e => e) (fun e => e)
    have := rd_sub (w := w1) (c := c) (i := i) (k := k) (len := M.cells.length) (xs := ints M.cells) (fun j _ => by rw [h1.c.cell j]; simp) (by simp) hik
    simpa [ints, List.map_take, List.map_drop] using this
  have f1 : IntKind.i64.wrap ((M.cells.length : Int) - (i : Int)) = (M.cells.length : Int) - (i : Int) := by rw [IntKind.wrap_i64]; omega
  have f2 : IntKind.i64.wrap ((i : Int) + (k : Int)) = (i : Int) + (k : Int) := by rw [IntKind.wrap_i64]; omega
  have HR := Lib.hid hrd
  clear hrd
  generalize hlen : M.cells.length = len at *
  obtain ⟨x, hx⟩ : ∃ x : Int, x = if n < 0 then 0 else n := ⟨_, rfl⟩
  have hx2 : (if (len : Int) - (i : Int) < x then (len : Int) - (i : Int) else x) = (k : Int) := by
    subst hx
    split <;> split at * <;> omega
  have hx3 : (if n < 0 then 0 else n) = x := hx.symm
  have g3 : 0 ≤ (i : Int) + (k : Int) ∧ (i : Int) + (k : Int) ≤ (len : Int) := by omega
  have g4 : ((i : Int) + (k : Int)).toNat = i + k := by omega
  have HX := Lib.hid hx
  have HN := Lib.hid hn
  have HL := Lib.hid hlen
  clear hx hn hlen h
  rcases hiv with ⟨h1, rfl⟩ | rfl | ⟨h1, rfl⟩
  · simp only [Int.natCast_zero, Int.sub_zero, Int.zero_add, Nat.zero_add] at f1 f2 hx2 g3 g4
    go_enter Try.func29, Try.ntmps29
    go_wp2
    refine wp_region_still_tail 18 (by kernel_rfl) (by kernel_rfl) ?_
    simp only [List.take_succ_cons, List.take_zero, List.drop_succ_cons, List.drop_zero]
    repeat still_step
    refine wpStill_nil ?_
    change wpList _ _ _ _ _ w.drew
    go_wp2_with fail
    all_goals
      ((with_reducible refine (clone_ints _ k _ _ _ (HR.out _ (Kp.refl _ w).drew _ ?_) (by omega)).mono ?_))
      · first | rfl | (split <;> first | rfl | (exfalso; omega)) | (simp; done)
      rintro e w' ⟨v, rfl, hv, hk⟩
      go_wp2
      have hv' : w'.ownsRow w.heap.size 2 1 v k (ints ((M.cells.drop _).take k)) := hv
      go_ret
      exact ⟨v, rfl, hv', (Kp.refl _ w).drew.trans' hk⟩
  · skip
    go_enter Try.func29, Try.ntmps29
    go_wp2
    refine wp_region_still_tail 18 (by kernel_rfl) (by kernel_rfl) ?_
    simp only [List.take_succ_cons, List.take_zero, List.drop_succ_cons, List.drop_zero]
    repeat still_step
    refine wpStill_nil ?_
    change wpList _ _ _ _ _ w.drew
    go_wp2_with fail
    all_goals
      ((with_reducible refine (clone_ints _ k _ _ _ (HR.out _ (Kp.refl _ w).drew _ ?_) (by omega)).mono ?_))
      · first | rfl | (split <;> first | rfl | (exfalso; omega)) | (simp; done)
      rintro e w' ⟨v, rfl, hv, hk⟩
      go_wp2
      have hv' : w'.ownsRow w.heap.size 2 1 v k (ints ((M.cells.drop _).take k)) := hv
      go_ret
      exact ⟨v, rfl, hv', (Kp.refl _ w).drew.trans' hk⟩
  · obtain rfl : k = 0 := by omega
    simp only [Int.sub_self, Int.natCast_zero, Int.add_zero, Nat.add_zero] at f1 f2 hx2 g3 g4
    go_enter Try.func29, Try.ntmps29
    go_wp2
    refine wp_region_still_tail 18 (by kernel_rfl) (by kernel_rfl) ?_
    simp only [List.take_succ_cons, List.take_zero, List.drop_succ_cons, List.drop_zero]
    repeat still_step
    refine wpStill_nil ?_
    change wpList _ _ _ _ _ w.drew
    go_wp2_with fail
    all_goals
      ((with_reducible refine (clone_ints _ 0 _ _ _ (HR.out _ (Kp.refl _ w).drew _ ?_) (by omega)).mono ?_))
      · first | rfl | (split <;> first | rfl | (exfalso; omega)) | (simp; done)
      rintro e w' ⟨v, rfl, hv, hk⟩
      go_wp2
      have hv' : w'.ownsRow w.heap.size 2 1 v 0 (ints ((M.cells.drop _).take 0)) := hv
      go_ret
      exact ⟨v, rfl, hv', (Kp.refl _ w).drew.trans' hk⟩
theorem memLook (w : World) (m c : Nat) (M : Mm) (i n : Int) (h : MemIs w m c M) :
    Calls Try.prog 29 #[.pointer (some ⟨m, 0, none⟩), .int .i64 i, .int .i64 n] w fun e w' => ∃ v, e = .returned v ∧
      w'.ownsRow w.heap.size 2 1 v (lookAt M.cells i n).length (ints (lookAt M.cells i n)) ∧ Kp (fun _ => False) w w' := by
  have e : (lookAt M.cells i n).length = (min (max n 0) (M.cells.length - min (max i 0) M.cells.length)).toNat := by
    unfold lookAt
    rw [List.length_take, List.length_drop]
    omega
  rw [e]
  exact memLook_k w m c M _ _ i n h (by omega) (by omega) (by omega)
end Go.Proofs.Ytljjobdboambiaa
