/- samaralaw24.SettleDirty: the walk. -/
import Derived.Test.YtljjobdboambiaaSettleE
import Derived.Test.YtljjobdboambiaaSettleF
import Derived.ProofKit
import Derived.OpenShut
namespace Go.Proofs.Ytljjobdboambiaa
open Go.RowKit Samara Go.ChangeAt Go.ChangeShapes Go.WideShapes

/-- What Clean asks of a land besides. -/
def Small (L : LandSt) : Prop := (reachFrom L 8 (cellVal L.mm 2) []).1.length ≤ 1 ∧ (reachedOf L).1.length ≤ 100000 ∧ (freeOf L).1.length ≤ 100000 ∧
  (∀ x ∈ (reachedOf L).1, -9223372036854775808 ≤ x ∧ x ≤ 9223372036854775807) ∧ ∀ x ∈ (freeOf L).1, -9223372036854775808 ≤ x ∧ x ≤ 9223372036854775807
instance (L : LandSt) : Decidable (Small L) := by unfold Small; infer_instance
theorem all64 {l : List Int} (h : ∀ x ∈ l, -9223372036854775808 ≤ x ∧ x ≤ 9223372036854775807) (k : Nat) : I64 (l.getD k 0) := by
  rw [List.getD_eq_getElem?_getD]
  cases e : l[k]? with
  | none => exact ⟨by decide, by decide⟩
  | some x => exact h x (List.mem_of_getElem? e)
theorem clean_any (A : Adr) (L : LandSt) (w : World) (hL : LandIs w A L) (hs : Small L) :
    Calls Try.prog 7 #[.pointer (some ⟨A.l, 0, none⟩)] w fun e w' => e = .returned (.bool (cleanOf L)) ∧ Kp (fun _ => False) w w' := by
  obtain ⟨h1, h2, h3, h4, h5⟩ := hs
  have hR : ReachedLaw A L w := reached_small A L w hL h1
  by_cases h : (reachedOf L).2 = false ∨ (freeOf L).2 = false ∨ (reachedOf L).1 ≠ L.ar.live ∨ (freeOf L).1.length + (reachedOf L).1.length ≠ L.c.n
  · exact clean_no A L w hL hR h h2 h3
  · exact clean_yes A L w hL hR h (all64 h4) (all64 h5)

def bornN (L : LandSt) : Nat → LandSt
  | 0 => L
  | k + 1 => { bornN L k with ar := ((bornN L k).ar.born ((k : Int) + 2)).2 }
theorem fact_new : Small (newLand 9) ∧ cleanOf (newLand 9) = true ∧ (reachedOf (newLand 9)).2 = true ∧ (reachedOf (newLand 9)).1.length = 1 := by decide +kernel
theorem fact_born : ∀ k, k < 5 → ((bornN (newLand 9) k).ar.born ((k : Int) + 2)).1 ≠ 0 ∧ k + 1 < (bornN (newLand 9) k).ar.slots.length ∧ Small (bornN (newLand 9) (k + 1)) ∧ cleanOf (bornN (newLand 9) (k + 1)) = false := by decide +kernel
theorem fact_tail : Small { newLand 9 with mm := put (newLand 9).mm 23 1 } ∧ cleanOf { newLand 9 with mm := put (newLand 9).mm 23 1 } = false := by decide +kernel
theorem fact_latch : Small { newLand 9 with mm := put (newLand 9).mm 0 1 } ∧ cleanOf { newLand 9 with mm := put (newLand 9).mm 0 1 } = false := by decide +kernel

theorem new9 (w : World) : Calls Try.prog 5 #[.int .i64 9] w fun e w' => ∃ A : Adr, e = .returned (.pointer (some ⟨A.l, 0, none⟩)) ∧ LandIs w' A (newLand 9) ∧ Fresh w A ∧ Kp (fun _ => False) w w' :=
  new_any 9 (by decide) (by decide) w

set_option maxHeartbeats 1000000 in
theorem awake24 (w : World) : Calls Try.prog 4 #[] w fun e w' => e = .returned (.bool true) ∧ Kp (fun _ => False) w w' := by
  go_enter Try.func4, Try.ntmps4
  go_wp2_with fail
  ((with_reducible refine (new9 w).mono ?_))
  rintro r w1 ⟨A, rfl, hL, hfr, hk1⟩
  have e0 := (hL.l.cell 0).trans rfl
  have e1 := (hL.l.cell 1).trans rfl
  have hrc := reached_small A _ w1 hL fact_new.1.1
  have hb := fact_new.2.2.1
  have hn := fact_new.2.2.2
  rw [hb, hn] at hrc
  generalize (reachedOf (newLand 9)).1 = rl at hrc
  have hcl : ∀ w2, Kp (fun _ => False) w1 w2 → Calls Try.prog 7 #[.pointer (some ⟨A.l, 0, none⟩)] w2 fun e w' => e = .returned (.bool true) ∧ Kp (fun _ => False) w2 w' := fun w2 hk => by
    have := clean_any A _ w2 (hL.keep0 hk) fact_new.1
    rw [fact_new.2.1] at this
    exact this
  have HRC := Lib.hid hrc
  have HCL := Lib.hid hcl
  have HK1 := Lib.hid hk1
  clear hrc hcl hk1 hb hn hL hfr
  go_wp2_with fail
  ((with_reducible refine HRC.out.mono ?_))
  rintro r w2 ⟨v, rfl, hv, hnv, hk2⟩
  obtain ⟨vA, vc, rfl⟩ := own_form hv
  have HCL2 := Lib.hid (HCL.out w2 hk2)
  have HK2 := Lib.hid (HK1.out.trans' hk2)
  clear hk2 hnv hv HCL HRC
  go_wp2_with fail
  ((with_reducible refine HCL2.out.mono ?_))
  rintro r w3 ⟨rfl, hk3⟩
  have HK3 := Lib.hid (HK2.out.trans' hk3)
  clear hk3 HCL2
  go_wp2
  go_ret
  exact ⟨rfl, HK3.out⟩

set_option maxHeartbeats 2000000 in
theorem dirty_any (a0 : Int) (a1 : Bool) (w0 : (Lit.int .u8 a0).wf = true) (w : World) :
    Calls Try.prog 3 #[.int .u8 a0, .bool a1] w fun e w' => e = .returned (.bool true) ∧ Kp (fun _ => False) w w' := by
  obtain ⟨b1, b2⟩ := bounds_u8 w0
  obtain ⟨r0, hr0⟩ : ∃ r : Nat, (r : Int) = a0 % 5 := ⟨(a0 % 5).toNat, by omega⟩
  have hr4 : r0 ≤ 4 := by omega
  have htm : a0.tmod 5 = r0 := by rw [hr0]; exact Int.tmod_eq_emod_of_nonneg b1
  go_enter Try.func3, Try.ntmps3
  go_wp2_with fail
  ((with_reducible refine (awake24 w).mono ?_))
  rintro r w1 ⟨rfl, hk1⟩
  have HK1 := Lib.hid hk1
  clear hk1
  go_wp2_with fail
  ((with_reducible refine (new9 w1).mono ?_))
  rintro r w2 ⟨A, rfl, hL, hfr, hk2⟩
  have HK2 := Lib.hid (HK1.out.trans' hk2)
  have hfr0 : Fresh w A := by
    have := HK1.out.size
    obtain ⟨q1, q2, q3, q4, q5⟩ := hfr
    exact ⟨by omega, by omega, by omega, by omega, by omega⟩
  have HL := Lib.hid hL
  have HFR := Lib.hid hfr0
  clear hk2 hfr hfr0 hL HK1
  go_wp2_with fail
  go_loopw [6] (fun i wr => ∃ k : Nat, k ≤ r0 + 1 ∧ i = .int .i64 k ∧ Hid (LandIs wr A (bornN (newLand 9) k)) ∧ Hid (Kp (fun _ => False) w wr)) (fun i _ => 10 - (intOf i).toNat)
  case atStart => exact ⟨0, by omega, rfl, HL, HK2⟩
  case round =>
    obtain ⟨k, hk, rfl, hlr, hkr⟩ := hrel
    by_cases hlt : k ≤ r0
    · have e1 := (hlr.out.l.cell 1).trans rfl
      have hlt' : (k : Int) ≤ a0 % 5 := by omega
      obtain ⟨q1, q2, q3, q4⟩ := fact_born k (by omega)
      have hbo := landBorn A _ (k + 1) wr hlr.out q2
      have ec : ((k + 1 : Nat) : Int) + 1 = 2 + (k : Int) := by omega
      have ec2 : (2 : Int) + k = (k : Int) + 2 := by omega
      rw [ec] at hbo
      have hnx : ∀ w', LandIs w' A { bornN (newLand 9) k with ar := ((bornN (newLand 9) k).ar.born (2 + (k : Int))).2 } → LandIs w' A (bornN (newLand 9) (k + 1)) := fun w' h => by rw [ec2] at h; exact h
      rw [← ec2] at q1
      generalize hx : ((bornN (newLand 9) k).ar.born (2 + (k : Int))).1 = x at hbo q1
      have hx0 : (x == 0) = false := by simpa using q1
      have HBO := Lib.hid hbo
      have HNX := Lib.hid hnx
      clear hbo hnx q1 q2 q3 q4 ec ec2 hx
      go_wp2_with fail
      ((with_reducible refine HBO.out.mono ?_))
      rintro r w3 ⟨rfl, hl3, hk3⟩
      have HL3 := Lib.hid (HNX.out w3 hl3)
      have HK3 := Lib.hid (hkr.out.fresh hk3 HFR.out.ar)
      clear hl3 hk3 HBO HNX hlr hkr e1
      go_wp2
      go_roundw
      case rel => exact ⟨k + 1, by omega, by go_num, HL3, HK3⟩
      case measure => simp [intOf]; omega
    · obtain rfl : k = r0 + 1 := by omega
      have hlt' : ¬ ((r0 + 1 : Nat) : Int) ≤ a0 % 5 := by omega
      have hcl := clean_any A _ wr hlr.out (fact_born r0 (by omega)).2.2.1
      rw [(fact_born r0 (by omega)).2.2.2] at hcl
      have HCL := Lib.hid hcl
      have hlt2 : ¬ (r0 : Int) + 1 ≤ a0 % 5 := by omega
      clear hcl hlr
      go_wp2_with fail
      ((with_reducible refine HCL.out.mono ?_))
      rintro r w3 ⟨rfl, hk3⟩
      have HK3 := Lib.hid (hkr.out.trans' hk3)
      clear hk3 hkr HCL
      go_wp2_with fail
      ((with_reducible refine (new9 w3).mono ?_))
      rintro r w4 ⟨B, rfl, hL, hfr, hk4⟩
      have hfr0 : Fresh w B := by
        have := HK3.out.size
        obtain ⟨q1, q2, q3, q4, q5⟩ := hfr
        exact ⟨by omega, by omega, by omega, by omega, by omega⟩
      have HFRB := Lib.hid hfr0
      have HK4 := Lib.hid (HK3.out.trans' hk4)
      have e0 := (hL.l.cell 0).trans rfl
      have hs1 := landStore B _ 23 1 ⟨by decide, by decide⟩ w4 hL
      have hs2 := landStore B _ 0 1 ⟨by decide, by decide⟩ w4 hL
      have HS1 := Lib.hid hs1
      have HS2 := Lib.hid hs2
      clear hs1 hs2 hfr hfr0 hk4 HK3 hL HFR HL HK2
      cases a1 with
      | true =>
        go_wp2_with fail
        ((with_reducible refine HS1.out.mono ?_))
        rintro r w5 ⟨q, rfl, hl5, hk5⟩
        have HK5 := Lib.hid (HK4.out.fresh hk5 HFRB.out.mem)
        have hcl := clean_any B _ w5 hl5 fact_tail.1
        rw [fact_tail.2] at hcl
        have HCL := Lib.hid hcl
        clear hcl hl5 hk5 HS1 HS2 HK4 e0
        go_wp2_with fail
        ((with_reducible refine HCL.out.mono ?_))
        rintro r w6 ⟨rfl, hk6⟩
        have HK6 := Lib.hid (HK5.out.trans' hk6)
        clear hk6 HCL HK5
        go_wp2
        go_ret
        exact ⟨rfl, HK6.out⟩
      | false =>
        go_wp2_with fail
        ((with_reducible refine HS2.out.mono ?_))
        rintro r w5 ⟨q, rfl, hl5, hk5⟩
        have HK5 := Lib.hid (HK4.out.fresh hk5 HFRB.out.mem)
        have hcl := clean_any B _ w5 hl5 fact_latch.1
        rw [fact_latch.2] at hcl
        have HCL := Lib.hid hcl
        clear hcl hl5 hk5 HS1 HS2 HK4 e0
        go_wp2_with fail
        ((with_reducible refine HCL.out.mono ?_))
        rintro r w6 ⟨rfl, hk6⟩
        have HK6 := Lib.hid (HK5.out.trans' hk6)
        clear hk6 HCL HK5
        go_wp2
        go_ret
        exact ⟨rfl, HK6.out⟩
end Go.Proofs.Ytljjobdboambiaa
