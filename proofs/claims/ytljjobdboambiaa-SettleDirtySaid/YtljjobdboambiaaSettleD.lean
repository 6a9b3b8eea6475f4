/- The sort of what has at most one element; Reached. -/
import Derived.Test.YtljjobdboambiaaSettleC
namespace Go.Proofs.Ytljjobdboambiaa
open Go.RowKit Samara

set_option maxHeartbeats 1000000 in
theorem insertion_small (A : Option Addr) (n c : Nat) (f : Value) (hn : n ≤ 1) (w : World) :
    Calls Try.prog 36 #[.slice A n c, .int .i64 0, .int .i64 n, f] w fun e w' => e = .returned (.tuple #[]) ∧ w = w' := by
  have h1 : ¬ ((1 : Int) < (n : Int)) := by omega
  go_enter Try.func36, Try.ntmps36
  go_wp2
  refine wp_loop_rounds 1 ?_
  rw [rounds_succ]
  go_wp2
  go_end0
  exact ⟨rfl, rfl⟩
set_option maxHeartbeats 1000000 in
theorem stable_small (A : Option Addr) (n c : Nat) (f : Value) (hn : n ≤ 1) (w : World) :
    Calls Try.prog 32 #[.slice A n c, .int .i64 n, f] w fun e w' => e = .returned (.tuple #[]) ∧ w = w' := by
  have h1 : ¬ ((20 : Int) ≤ (n : Int)) := by omega
  have h2 : ¬ ((20 : Int) < (n : Int)) := by omega
  go_enter Try.func32, Try.ntmps32
  go_wp2
  refine wp_loop_rounds 1 ?_
  rw [rounds_succ]
  go_wp2_with (go_at_call 36; refine (insertion_small _ n _ _ hn _).mono ?_; rintro e w' ⟨rfl, rfl⟩)
  refine wp_loop_rounds 1 ?_
  rw [rounds_succ]
  go_wp2
  go_end0
  exact ⟨rfl, rfl⟩
set_option maxHeartbeats 1000000 in
theorem sort_small (A : Option Addr) (n c : Nat) (f : Value) (hn : n ≤ 1) (w : World) :
    Calls Try.prog 24 #[.slice A n c, f] w fun e w' => e = .returned (.tuple #[]) ∧ w = w' := by
  go_enter Try.func24, Try.ntmps24
  go_wp2_with (go_at_call 32; refine (stable_small _ n _ _ hn _).mono ?_; rintro e w' ⟨rfl, rfl⟩)
  go_end0
  exact ⟨rfl, rfl⟩

theorem sortSlots_small (l : List Int) (h : l.length ≤ 1) : sortSlots l = l := by
  match l, h with
  | [], _ => rfl
  | [x], _ => rfl

set_option maxHeartbeats 1000000 in
theorem reached_small (A : Adr) (L : LandSt) (w : World) (hL : LandIs w A L) (hs : (reachFrom L 8 (cellVal L.mm 2) []).1.length ≤ 1) :
    Calls Try.prog 9 #[.pointer (some ⟨A.l, 0, none⟩)] w fun e w' => ∃ v, e = .returned (.tuple #[v, .bool (reachedOf L).2]) ∧
      w'.ownsRow 0 2 1 v (reachedOf L).1.length (ints (reachedOf L).1) ∧ New w v ∧ Kp (fun _ => False) w w' := by
  have hcl := settleCell A L 2 w hL
  have hok := cellVal_ok hL.ok 2
  have hres : reachedOf L = if (reachFrom L 8 (cellVal L.mm 2) []).2 then (sortSlots (reachFrom L 8 (cellVal L.mm 2) []).1, true) else ([], false) := rfl
  have hre : ∀ w1, Kp (fun _ => False) w w1 → Calls Try.prog 23 #[.pointer (some ⟨A.l, 0, none⟩), .int .i64 (cellVal L.mm 2), .int .i64 8, .slice none 0 0] w1 fun e w' => SlOk w1 w' (.slice none 0 0) (reachFrom L 8 (cellVal L.mm 2) []) e :=
    fun w1 hk => reach_any A L 8 (Nat.le_refl _) _ _ [] w1 (hL.keep0 hk) hok (World.ownsRow_nil _ _ _ _) (fun g hg => by simp [Value.ownBlock] at hg) (by simp)
  rw [sortSlots_small _ hs] at hres
  generalize reachFrom L 8 (cellVal L.mm 2) [] = rx at *
  generalize cellVal L.mm 2 = x0 at *
  obtain ⟨rl, rb⟩ := rx
  have HCL := Lib.hid hcl
  have HRES := Lib.hid hres
  have HRE := Lib.hid hre
  clear hcl hres hre hL
  go_enter Try.func9, Try.ntmps9
  go_wp2_with fail
  ((with_reducible refine HCL.out.mono ?_))
  rintro r w1 ⟨rfl, hk1⟩
  go_wp2_with fail
  ((with_reducible refine (HRE.out w1 hk1).mono ?_))
  rintro r w2 ⟨v, rfl, hv, hb, hk2⟩
  have hk3 : Kp (fun _ => False) w w2 := hk1.trans hk2 (fun b _ e => by simp [Value.ownBlock] at e)
  have hn : New w v := fun g hg => by
    rcases hb g hg with h1 | h1
    · simp [Value.ownBlock] at h1
    · have := hk1.size; omega
  obtain ⟨vA, vc, rfl⟩ := own_form hv
  have HK3 := Lib.hid hk3
  have HN := Lib.hid hn
  have HV := Lib.hid hv
  clear hk1 hk2 hk3 hn hv hb
  cases rb with
  | true =>
    have hf := HRES.out
    simp only [if_true] at hf
    have HF := Lib.hid hf
    clear hf
    go_wp2_with (go_at_call 24; refine (sort_small _ _ _ _ hs _).mono ?_; rintro e w' ⟨rfl, rfl⟩)
    go_ret2
    exact ⟨_, by rw [HF.out]; rfl, by rw [HF.out]; exact HV.out, HN.out, HK3.out⟩
  | false =>
    have hf := HRES.out
    simp only [Bool.false_eq_true, if_false] at hf
    have HF := Lib.hid hf
    clear hf
    go_wp2
    go_ret2
    exact ⟨_, by rw [HF.out]; rfl, by rw [HF.out]; exact World.ownsRow_nil _ _ _ _, fun g hg => by simp [Value.ownBlock] at hg, HK3.out⟩
end Go.Proofs.Ytljjobdboambiaa
