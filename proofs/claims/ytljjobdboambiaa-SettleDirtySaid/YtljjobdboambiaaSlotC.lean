/- slot: Unpack. -/
import Derived.Test.YtljjobdboambiaaSlotB
namespace Go.Proofs.Ytljjobdboambiaa
open Go.RowKit Samara

def unpackB (w : List Int) : Samara.Node × Bool := unpack w
theorem unpack_no (xs : List Int) (h : ¬ (xs.length = 28 ∧ 16 ≤ xs.getD 0 0 ∧ xs.getD 0 0 ≤ 130)) : unpackB xs = (Samara.Node.zero, false) := by
  unfold unpackB unpack; rw [if_neg h]
def unpackN (xs : List Int) (k : Nat) : Samara.Node := ⟨decide (xs.getD 0 0 % 16 = 2), xs.getD 1 0, (xs.drop 2).take k, (xs.drop 10).take k, (xs.drop 18).take k⟩
theorem unpack_yes (xs : List Int) (h : xs.length = 28 ∧ 16 ≤ xs.getD 0 0 ∧ xs.getD 0 0 ≤ 130) (k : Nat) (hk : k = min (xs.getD 0 0 / 16).toNat 8) :
    unpackB xs = if packB (unpackN xs k) = xs then (unpackN xs k, true) else (Samara.Node.zero, false) := by
  unfold unpackB unpack packB; rw [if_pos h]; subst hk; rfl
def nilSl : Sl := ⟨none, 0, []⟩
theorem nilSl_is (w : World) : nilSl.Is w := Rd.nil_

/-- What Unpack hands back. -/
def Unpacked (w w' : World) (xs : List Int) (r : Ending) : Prop :=
  ∃ inner lo e s g, r = .returned (.tuple #[nodeV inner lo e s g, .bool (unpackB xs).2]) ∧ nodeOf' inner lo e s g = (unpackB xs).1 ∧ e.Is w' ∧ s.Is w' ∧ g.Is w' ∧
    New w e.v ∧ New w s.v ∧ New w g.v ∧ Kp (fun _ => False) w w'

set_option maxHeartbeats 1000000 in
theorem unpack_small (v : Value) (n : Nat) (xs : List Int) (w : World) (hown : w.ownsRow 0 2 1 v n (ints xs)) (hn : n ≤ 1000000) (h : ¬ (n = 28 ∧ 16 ≤ xs.getD 0 0 ∧ xs.getD 0 0 ≤ 130)) :
    Calls Try.prog 30 #[v] w fun r w' => Unpacked w w' xs r := by
  have hl : xs.length = n := by simpa using hown.1
  have hu := unpack_no xs (by rw [hl]; exact h)
  have hend : ∀ r w', Kp (fun _ => False) w w' → r = .returned (.tuple #[.agg #[.bool false, .int .i64 0, .slice none 0 0, .slice none 0 0, .slice none 0 0], .bool false]) → Unpacked w w' xs r := by
    intro r w' hk hr
    refine ⟨false, 0, nilSl, nilSl, nilSl, ?_, ?_, nilSl_is _, nilSl_is _, nilSl_is _, fun g hg => by simp [nilSl, Sl.v, Value.ownBlock] at hg, fun g hg => by simp [nilSl, Sl.v, Value.ownBlock] at hg, fun g hg => by simp [nilSl, Sl.v, Value.ownBlock] at hg, hk⟩
    · rw [hr, hu]; rfl
    · rw [hu]; rfl
  have HE := Lib.hid hend
  have HU := Lib.hid hu
  clear hend hu
  by_cases h28 : n = 28
  · subst h28
    obtain ⟨A, c, rfl⟩ : ∃ g c, v = .slice (some ⟨g, 0, none⟩) 28 c := by
      rcases hown.2 with ⟨_, h0⟩ | ⟨g, cap, cur, rfl, _⟩
      · omega
      · exact ⟨g, cap, rfl⟩
    have hc := hown.cellAt 0 (by decide)
    have hc0 : w.cell? ⟨A, 0, none⟩ = some (.int .i64 (xs.getD 0 0)) := by
      rw [hc]; simp [ints, hl]
    have hc1 : ∀ o, (w.alloc o).cell? ⟨A, 0, none⟩ = some (.int .i64 (xs.getD 0 0)) := fun o => ((Kp.refl (fun _ => False) w).alloc o).cell hc0 (fun e => e)
    generalize xs.getD 0 0 = x0 at *
    have hd : x0 < 16 ∨ (16 ≤ x0 ∧ 130 < x0) := by omega
    clear h hc hc0 hown hl
    rcases hd with hd | hd
    all_goals
      go_enter Try.func30, Try.ntmps30
      go_wp2
      refine bodyPost_ret (v := .tuple #[.agg #[.bool false, .int .i64 0, .slice none 0 0, .slice none 0 0, .slice none 0 0], .bool false]) (by simp [results, Try.results30, go_sem]) rfl (HE.out _ _ ?_ rfl)
      repeat (first | exact Kp.refl _ _ | (refine Kp.setCell ?_ (.inr (by simp)) _) | apply Kp.alloc)
  · obtain ⟨A, c, rfl⟩ : ∃ A c, v = .slice A n c := by
      rcases hown.2 with ⟨rfl, rfl⟩ | ⟨g, cap, cur, rfl, _⟩
      · exact ⟨_, _, rfl⟩
      · exact ⟨_, _, rfl⟩
    have hne : ¬ ((n : Int) = 28) := by omega
    clear h hown hl h28
    go_enter Try.func30, Try.ntmps30
    go_wp2
    refine bodyPost_ret (v := .tuple #[.agg #[.bool false, .int .i64 0, .slice none 0 0, .slice none 0 0, .slice none 0 0], .bool false]) (by simp [results, Try.results30, go_sem]) rfl (HE.out _ _ ?_ rfl)
    repeat (first | exact Kp.refl _ _ | (refine Kp.setCell ?_ (.inr (by simp)) _) | apply Kp.alloc)

theorem Kp.setB' {w0 w1 : World} {b i : Nat} {v : Value} (h : Kp (fun x => x = b) w0 w1) : Kp (fun x => x = b) w0 (w1.setCell ⟨b, i, none⟩ v) := h.setCell (.inl rfl) v
theorem Kp.setB {w0 w1 : World} {b i : Nat} {v : Value} (h : Kp (fun _ => False) w0 w1) : Kp (fun x => x = b) w0 (w1.setCell ⟨b, i, none⟩ v) := Kp.setB' (h.mono fun _ _ e => e.elim)
theorem own_form {w : World} {base : Nat} {e : TypeId} {size n : Nat} {v : Value} {xs : List Value} (h : w.ownsRow base e size v n xs) : ∃ A c, v = .slice A n c := by
  rcases h.2 with ⟨rfl, rfl⟩ | ⟨g, cap, cur, rfl, _⟩
  · exact ⟨_, _, rfl⟩
  · exact ⟨_, _, rfl⟩
/-- A part of what is owned, as a source. -/
theorem rd_part {w : World} {g c : Nat} {n : Nat} {xs : List Int} (h : w.ownsRow 0 2 1 (.slice (some ⟨g, 0, none⟩) n c) n (ints xs)) (i k : Nat) (hik : i + k ≤ n) :
    Rd w 1 (some ⟨g, i, none⟩) k (ints ((xs.drop i).take k)) := by
  have hl : xs.length = n := by simpa using h.1
  refine ⟨by simp; omega, fun hk => ⟨_, rfl, fun j u hu => ?_⟩⟩
  have hj : j < k := by
    rcases Nat.lt_or_ge j k with h1 | h1
    · exact h1
    · rw [List.getElem?_eq_none (by simp; omega)] at hu; cases hu
  have e : (⟨g, i, none⟩ : Addr).add j = ⟨g, i + j, none⟩ := by unfold Addr.add; split <;> simp_all
  rw [e, h.cellAt (i + j) (by omega), ← hu]
  simp [ints, hj]

set_option maxHeartbeats 1000000 in
theorem unpack_big (v : Value) (xs : List Int) (w : World) (hown : w.ownsRow 0 2 1 v 28 (ints xs)) (h : 16 ≤ xs.getD 0 0 ∧ xs.getD 0 0 ≤ 130) (h64 : ∀ k, I64 (xs.getD k 0)) :
    Calls Try.prog 30 #[v] w fun r w' => Unpacked w w' xs r := by
  have hl : xs.length = 28 := by simpa using hown.1
  have hu := unpack_yes xs ⟨hl, h⟩ _ rfl
  obtain ⟨g, c, rfl⟩ : ∃ g c, v = .slice (some ⟨g, 0, none⟩) 28 c := by
    rcases hown.2 with ⟨_, h0⟩ | ⟨g, cap, cur, rfl, _⟩
    · omega
    · exact ⟨g, cap, rfl⟩
  have hc28 : 28 ≤ c := by
    rcases hown.2 with ⟨_, h0⟩ | ⟨g', cap, cur, hv, _, _, h1, _⟩
    · omega
    · injection hv with _ _ hv; omega
  have hc0 : w.cell? ⟨g, 0, none⟩ = some (.int .i64 (xs.getD 0 0)) := by rw [hown.cellAt 0 (by decide)]; simp [ints, hl]
  have hc1 : w.cell? ⟨g, 1, none⟩ = some (.int .i64 (xs.getD 1 0)) := by rw [hown.cellAt 1 (by decide)]; simp [ints, hl]
  have hgw : g < w.heap.size := (hown.lt g rfl).2
  generalize hx0 : xs.getD 0 0 = x0 at *
  generalize hx1 : xs.getD 1 0 = x1 at *
  obtain ⟨k, hk⟩ : ∃ k : Nat, k = min (x0 / 16).toNat 8 := ⟨_, rfl⟩
  have hk1 : x0 / 16 = (k : Int) := by omega
  have hk8 : k ≤ 8 := by omega
  rw [← hk] at hu
  have HU := Lib.hid hu
  have HO := Lib.hid hown
  have HX0 := Lib.hid hx0
  have HX1 := Lib.hid hx1
  have HK := Lib.hid hk
  have H64 := Lib.hid h64
  clear hu hx0 hx1 hk h64 hl
  have hB0 := ((Blk.new w 40 #[.bool false, .int .i64 0, .slice none 0 0, .slice none 0 0, .slice none 0 0]).alloc (.cells #[.bool (x0 % 16 == 2), .int .i64 x1, .slice none 0 0, .slice none 0 0, .slice none 0 0] 40)).drew
  have hB1 := (Blk.new (w.alloc (.cells #[.bool false, .int .i64 0, .slice none 0 0, .slice none 0 0, .slice none 0 0] 40)) 40 #[.bool (x0 % 16 == 2), .int .i64 x1, .slice none 0 0, .slice none 0 0, .slice none 0 0]).drew
  have hK0 := (((Kp.refl (fun _ => False) w).alloc (.cells #[.bool false, .int .i64 0, .slice none 0 0, .slice none 0 0, .slice none 0 0] 40)).alloc (.cells #[.bool (x0 % 16 == 2), .int .i64 x1, .slice none 0 0, .slice none 0 0, .slice none 0 0] 40)).drew
  generalize hW0 : ((w.alloc (.cells #[.bool false, .int .i64 0, .slice none 0 0, .slice none 0 0, .slice none 0 0] 40)).alloc (.cells #[.bool (x0 % 16 == 2), .int .i64 x1, .slice none 0 0, .slice none 0 0, .slice none 0 0] 40)).drew = W0 at hB0 hB1 hK0
  have hsz0 : W0.heap.size = w.heap.size + 2 := by rw [← hW0]; simp
  simp only [World.size_alloc] at hB1
  have HB0 := Lib.hid hB0
  have HB1 := Lib.hid hB1
  have HK0 := Lib.hid hK0
  have HS0 := Lib.hid hsz0
  have hrd : ∀ wc, Kp (fun b => b = w.heap.size + 1) W0 wc → wc.ownsRow 0 2 1 (.slice (some ⟨g, 0, none⟩) 28 c) 28 (ints xs) := fun wc hk =>
    own_keep HO.out (HK0.out.trans hk fun b hb e => by omega) (off_false _)
  have HRD := Lib.hid hrd
  have hcl : Calls Try.prog 35 #[.slice (some ⟨g, 2, none⟩) k (c - 2)] (((w.alloc (.cells #[.bool false, .int .i64 0, .slice none 0 0, .slice none 0 0, .slice none 0 0] 40)).alloc (.cells #[.bool (x0 % 16 == 2), .int .i64 x1, .slice none 0 0, .slice none 0 0, .slice none 0 0] 40)).drew)
      fun e w' => ∃ A d, e = .returned (.slice A k d) ∧ w'.ownsRow W0.heap.size 2 1 (.slice A k d) k (ints ((xs.drop 2).take k)) ∧ Kp (fun _ => False) W0 w' := by
    rw [hW0]
    refine (clone_ints _ k _ _ _ (rd_part (hrd _ (Kp.refl _ _)) 2 k (by omega)) (by omega)).mono ?_
    rintro r w1 ⟨v1, rfl, hv1, hk1⟩
    obtain ⟨A, d, rfl⟩ := own_form hv1
    exact ⟨A, d, rfl, hv1, hk1⟩
  have HCL := Lib.hid hcl
  clear hB0 hB1 hK0 hsz0 hrd hown hW0 hcl
  go_enter Try.func30, Try.ntmps30
  go_wp2
  go_region
  go_wp2_with fail
  ((with_reducible refine HCL.out.mono ?_))
  rintro r w1 ⟨A1, d1, rfl, hv1, hk1⟩
  have b1 := HB1.out.keep hk1 (fun e => e)
  have c1 := (b1.cell 2).trans rfl
  have f1 := b1.frozen 2
  have b1' := b1.set_ 2 (.slice A1 k d1)
  simp only [List.setIfInBounds_toArray, List.set_cons_succ, List.set_cons_zero] at b1'
  have k1' : Kp (fun b => b = w.heap.size + 1) W0 (w1.setCell ⟨w.heap.size + 1, 2, none⟩ (.slice A1 k d1)) := hk1.setB
  have hrd1 := rd_part (HRD.out _ k1') 10 k (by omega)
  have hn1 : ∀ b, (Value.slice A1 k d1).ownBlock = some b → W0.heap.size ≤ b := fun b hb => (hv1.lt b hb).1
  have ho1 : Off (fun b => b = w.heap.size + 1) (.slice A1 k d1) := fun b hb e => by have := hn1 b hb; have := HS0.out; omega
  have e1 : Rd (w1.setCell ⟨w.heap.size + 1, 2, none⟩ (.slice A1 k d1)) 1 A1 k (ints ((xs.drop 2).take k)) := (Rd.of_own hv1).keep (Kp.refl _ w1).setB ho1
  have K1 := Lib.hid k1'
  have B1 := Lib.hid b1'
  have R1 := Lib.hid hrd1
  have N1 := Lib.hid hn1
  have O1 := Lib.hid ho1
  have E1 := Lib.hid e1
  clear b1 b1' k1' hrd1 hn1 ho1 e1 hv1 hk1
  go_wp2_with fail
  clear c1 f1
  generalize w1.setCell ⟨w.heap.size + 1, 2, none⟩ (.slice A1 k d1) = w1' at K1 B1 R1 E1 ⊢
  ((with_reducible refine (clone_ints _ k _ _ _ R1.out (by omega)).mono ?_))
  rintro r w2 ⟨v2, rfl, hv2, hk2⟩
  obtain ⟨A2, d2, rfl⟩ := own_form hv2
  have b2 := B1.out.keep hk2 (fun e => e)
  have c2 := (b2.cell 3).trans rfl
  have f2 := b2.frozen 3
  have b2' := b2.set_ 3 (.slice A2 k d2)
  simp only [List.setIfInBounds_toArray, List.set_cons_succ, List.set_cons_zero] at b2'
  have k2' : Kp (fun b => b = w.heap.size + 1) W0 (w2.setCell ⟨w.heap.size + 1, 3, none⟩ (.slice A2 k d2)) := (K1.out.trans hk2 (fun _ _ e => e.elim)).setB'
  have hrd2 := rd_part (HRD.out _ k2') 18 k (by omega)
  have hn2 : ∀ b, (Value.slice A2 k d2).ownBlock = some b → W0.heap.size ≤ b := fun b hb => Nat.le_trans K1.out.size (hv2.lt b hb).1
  have ho2 : Off (fun b => b = w.heap.size + 1) (.slice A2 k d2) := fun b hb e => by have := hn2 b hb; have := HS0.out; omega
  have e2 : Rd (w2.setCell ⟨w.heap.size + 1, 3, none⟩ (.slice A2 k d2)) 1 A2 k (ints ((xs.drop 10).take k)) := (Rd.of_own hv2).keep (Kp.refl _ w2).setB ho2
  have e12 : Rd (w2.setCell ⟨w.heap.size + 1, 3, none⟩ (.slice A2 k d2)) 1 A1 k (ints ((xs.drop 2).take k)) := E1.out.keep (len := k) (cap := d1) hk2.setB O1.out
  have K2 := Lib.hid k2'
  have B2 := Lib.hid b2'
  have R2 := Lib.hid hrd2
  have N2 := Lib.hid hn2
  have O2 := Lib.hid ho2
  have E2 := Lib.hid e2
  have E12 := Lib.hid e12
  clear b2 b2' k2' hrd2 hn2 ho2 e2 e12 hv2 hk2 E1 B1 R1 K1
  go_wp2_with fail
  clear c2 f2
  generalize w2.setCell ⟨w.heap.size + 1, 3, none⟩ (.slice A2 k d2) = w2' at K2 B2 R2 E2 E12 ⊢
  ((with_reducible refine (clone_ints _ k _ _ _ R2.out (by omega)).mono ?_))
  rintro r w3 ⟨v3, rfl, hv3, hk3⟩
  obtain ⟨A3, d3, rfl⟩ := own_form hv3
  have b3 := B2.out.keep hk3 (fun e => e)
  have c3 := (b3.cell 4).trans rfl
  have f3 := b3.frozen 4
  have b3' := b3.set_ 4 (.slice A3 k d3)
  simp only [List.setIfInBounds_toArray, List.set_cons_succ, List.set_cons_zero] at b3'
  have k3' : Kp (fun b => b = w.heap.size + 1) W0 (w3.setCell ⟨w.heap.size + 1, 4, none⟩ (.slice A3 k d3)) := (K2.out.trans hk3 (fun _ _ e => e.elim)).setB'
  have hn3 : ∀ b, (Value.slice A3 k d3).ownBlock = some b → W0.heap.size ≤ b := fun b hb => Nat.le_trans K2.out.size (hv3.lt b hb).1
  have ho3 : Off (fun b => b = w.heap.size + 1) (.slice A3 k d3) := fun b hb e => by have := hn3 b hb; have := HS0.out; omega
  have e3 : Rd (w3.setCell ⟨w.heap.size + 1, 4, none⟩ (.slice A3 k d3)) 1 A3 k (ints ((xs.drop 18).take k)) := (Rd.of_own hv3).keep (Kp.refl _ w3).setB ho3
  have e13 : Rd (w3.setCell ⟨w.heap.size + 1, 4, none⟩ (.slice A3 k d3)) 1 A1 k (ints ((xs.drop 2).take k)) := E12.out.keep (len := k) (cap := d1) hk3.setB O1.out
  have e23 : Rd (w3.setCell ⟨w.heap.size + 1, 4, none⟩ (.slice A3 k d3)) 1 A2 k (ints ((xs.drop 10).take k)) := E2.out.keep (len := k) (cap := d2) hk3.setB O2.out
  have hown3 := HRD.out _ k3'
  have b03 := HB0.out.keep k3' (by omega)
  have L1 : ((xs.drop 2).take k).length = k := by simpa using e13.1
  have L2 : ((xs.drop 10).take k).length = k := by simpa using e23.1
  have L3 : ((xs.drop 18).take k).length = k := by simpa using e3.1
  have h64' : ∀ j, I64 (((xs.drop 2).take k).getD j 0) := fun j => by
    simp only [List.getD_eq_getElem?_getD, List.getElem?_take, List.getElem?_drop]
    split
    · simpa using H64.out (2 + j)
    · exact ⟨by decide, by decide⟩
  have hx1' : I64 x1 := by rw [← HX1.out]; exact H64.out 1
  have hpk := pack_any (decide (x0 % 16 = 2)) x1 ⟨A1, d1, (xs.drop 2).take k⟩ ⟨A2, d2, (xs.drop 10).take k⟩ ⟨A3, d3, (xs.drop 18).take k⟩ _ (by unfold Sl.Is; rw [L1]; exact e13) (by unfold Sl.Is; rw [L2]; exact e23) (by unfold Sl.Is; rw [L3]; exact e3) hx1' h64' (by rw [L1]; omega)
  simp only [nodeV, Sl.v, L1, L2, L3] at hpk
  have c30 := (b3.cell 0).trans rfl
  have c31 := (b3.cell 1).trans rfl
  have c32 := (b3.cell 2).trans rfl
  have c33 := (b3.cell 3).trans rfl
  have hnode : nodeOf' (decide (x0 % 16 = 2)) x1 ⟨A1, d1, (xs.drop 2).take k⟩ ⟨A2, d2, (xs.drop 10).take k⟩ ⟨A3, d3, (xs.drop 18).take k⟩ = unpackN xs k := by
    unfold nodeOf' unpackN; rw [HX0.out, HX1.out]
  rw [hnode, ← beq_dec] at hpk
  have HP := Lib.hid hpk
  have K3 := Lib.hid k3'
  have B3 := Lib.hid b3'
  have N3 := Lib.hid hn3
  have O3 := Lib.hid ho3
  have E3 := Lib.hid e3
  have E13 := Lib.hid e13
  have E23 := Lib.hid e23
  have OW3 := Lib.hid hown3
  have B03 := Lib.hid b03
  have HN := Lib.hid hnode
  have LL := Lib.hid (And.intro L1 (And.intro L2 L3))
  clear hpk k3' b3' b3 hn3 ho3 e3 e13 e23 hown3 b03 hnode L1 L2 L3 hv3 hk3 h64' E2 E12 B2 R2 K2
  go_wp2_with fail
  clear c3 f3 c30 c31 c32 c33
  generalize w3.setCell ⟨w.heap.size + 1, 4, none⟩ (.slice A3 k d3) = w3' at K3 B3 E3 E13 E23 OW3 B03 HP ⊢
  ((with_reducible refine HP.out.mono ?_))
  rintro r w4 ⟨v4, rfl, hv4, hn4, hk4⟩
  obtain ⟨A4, d4, rfl⟩ := own_form hv4
  have hlen4 : (packB (unpackN xs k)).length ≤ 28 := by
    cases hfb : formedB (unpackN xs k) with
    | false => rw [pack_no _ hfb]; simp
    | true =>
      have hh := (nodeFormed_iff (unpackN xs k)).1 hfb
      have n1 : (unpackN xs k).ends.length ≤ 8 := hh.1.2.1
      have n2 : (unpackN xs k).slots.length = (unpackN xs k).ends.length := hh.1.2.2.1
      have n3 : (unpackN xs k).gaps.length = (unpackN xs k).ends.length := hh.1.2.2.2.1
      rw [pack_yes _ hfb]
      have l1 : ∀ q, (filled ([q, (unpackN xs k).lo] ++ (unpackN xs k).ends) 10).length = 10 := fun q => filled_length _ _ (by simp; omega)
      have l2 : ∀ q, (filled (filled ([q, (unpackN xs k).lo] ++ (unpackN xs k).ends) 10 ++ (unpackN xs k).slots) 18).length = 18 := fun q => filled_length _ _ (by rw [List.length_append, l1, n2]; omega)
      rw [filled_length _ _ (by rw [List.length_append, l2, n3]; omega)]
      omega
  have k4' : Kp (fun b => b = w.heap.size + 1) W0 w4 := K3.out.trans hk4 (fun _ _ e => e.elim)
  have heq := equal_ints _ _ _ _ d4 c _ xs w4 (Rd.of_own hv4) (Rd.of_own (HRD.out _ k4')) (by omega) (by omega)
  have HQ := Lib.hid heq
  have b4 := B3.out.keep hk4 (fun e => e)
  have b04 := B03.out.keep hk4 (fun e => e)
  have B4 := Lib.hid b4
  have B04 := Lib.hid b04
  have K4 := Lib.hid k4'
  have KK := Lib.hid hk4
  clear heq hv4 hn4 hlen4 k4' hk4 b4 b04
  go_wp2_with fail
  ((with_reducible refine HQ.out.mono ?_))
  rintro r w5 ⟨rfl, q, rfl⟩
  have c0 := ((B4.out.drewN q).cell 0).trans rfl
  have c1 := ((B4.out.drewN q).cell 1).trans rfl
  have c2 := ((B4.out.drewN q).cell 2).trans rfl
  have c3 := ((B4.out.drewN q).cell 3).trans rfl
  have c4 := ((B4.out.drewN q).cell 4).trans rfl
  have g0 := ((B04.out.drewN q).cell 0).trans rfl
  have g1 := ((B04.out.drewN q).cell 1).trans rfl
  have g2 := ((B04.out.drewN q).cell 2).trans rfl
  have g3 := ((B04.out.drewN q).cell 3).trans rfl
  have g4 := ((B04.out.drewN q).cell 4).trans rfl
  have y0 := (B04.out.drewN q).frozen 0
  have y1 := (B04.out.drewN q).frozen 1
  have y2 := (B04.out.drewN q).frozen 2
  have y3 := (B04.out.drewN q).frozen 3
  have y4 := (B04.out.drewN q).frozen 4
  have hkf : ∀ wf, Kp (fun b => b = w.heap.size ∨ b = w.heap.size + 1) w4 wf → Kp (fun _ => False) w wf := fun wf hf => by
    have h1 := K4.out.mono (F' := fun b => b = w.heap.size ∨ b = w.heap.size + 1) (fun b _ e => .inr e)
    exact HK0.out.trans (h1.trans' hf) fun b hb e => by omega
  have hend : ∀ wf r, Kp (fun b => b = w.heap.size ∨ b = w.heap.size + 1) w4 wf → decide (packB (unpackN xs k) = xs) = true →
      r = .returned (.tuple #[.agg #[.bool (x0 % 16 == 2), .int .i64 x1, .slice A1 k d1, .slice A2 k d2, .slice A3 k d3], .bool true]) → Unpacked w wf xs r := by
    intro wf r hf hdec hr
    have hu : unpackB xs = (unpackN xs k, true) := by rw [HU.out, if_pos (of_decide_eq_true hdec)]
    obtain ⟨L1, L2, L3⟩ := LL.out
    have hs0 := HS0.out
    have o1 : Off (fun b => b = w.heap.size ∨ b = w.heap.size + 1) (.slice A1 k d1) := fun b hb e => by have := N1.out b hb; omega
    have o2 : Off (fun b => b = w.heap.size ∨ b = w.heap.size + 1) (.slice A2 k d2) := fun b hb e => by have := N2.out b hb; omega
    have o3 : Off (fun b => b = w.heap.size ∨ b = w.heap.size + 1) (.slice A3 k d3) := fun b hb e => by have := N3.out b hb; omega
    refine ⟨decide (x0 % 16 = 2), x1, ⟨A1, d1, (xs.drop 2).take k⟩, ⟨A2, d2, (xs.drop 10).take k⟩, ⟨A3, d3, (xs.drop 18).take k⟩, ?_, by rw [HN.out, hu], ?_, ?_, ?_, ?_, ?_, ?_, hkf wf hf⟩
    · rw [hr, hu]; simp only [nodeV, Sl.v, L1, L2, L3, beq_dec]
    · unfold Sl.Is; rw [L1]; exact (E13.out.keep (len := k) (cap := d1) KK.out (off_false _)).keep (len := k) (cap := d1) hf o1
    · unfold Sl.Is; rw [L2]; exact (E23.out.keep (len := k) (cap := d2) KK.out (off_false _)).keep (len := k) (cap := d2) hf o2
    · unfold Sl.Is; rw [L3]; exact (E3.out.keep (len := k) (cap := d3) KK.out (off_false _)).keep (len := k) (cap := d3) hf o3
    · intro b hb; simp only [Sl.v, L1] at hb; have := N1.out b hb; omega
    · intro b hb; simp only [Sl.v, L2] at hb; have := N2.out b hb; omega
    · intro b hb; simp only [Sl.v, L3] at hb; have := N3.out b hb; omega
  have hend0 : ∀ wf r, Kp (fun b => b = w.heap.size ∨ b = w.heap.size + 1) w4 wf → decide (packB (unpackN xs k) = xs) = false →
      r = .returned (.tuple #[.agg #[.bool false, .int .i64 0, .slice none 0 0, .slice none 0 0, .slice none 0 0], .bool false]) → Unpacked w wf xs r := by
    intro wf r hf hdec hr
    have hu : unpackB xs = (Samara.Node.zero, false) := by rw [HU.out, if_neg (of_decide_eq_false hdec)]
    refine ⟨false, 0, nilSl, nilSl, nilSl, ?_, ?_, nilSl_is _, nilSl_is _, nilSl_is _, fun g hg => by simp [nilSl, Sl.v, Value.ownBlock] at hg, fun g hg => by simp [nilSl, Sl.v, Value.ownBlock] at hg, fun g hg => by simp [nilSl, Sl.v, Value.ownBlock] at hg, hkf wf hf⟩
    · rw [hr, hu]; rfl
    · rw [hu]; rfl
  have HEND := Lib.hid hend
  have HEND0 := Lib.hid hend0
  clear hkf hend hend0
  cases hd : decide (packB (unpackN xs k) = xs) with
  | true =>
    have HD := Lib.hid hd
    clear hd
    go_wp2
    refine bodyPost_ret (v := .tuple #[.agg #[.bool (x0 % 16 == 2), .int .i64 x1, .slice A1 k d1, .slice A2 k d2, .slice A3 k d3], .bool true]) (by simp [results, Try.results30, go_sem, g0, g1, g2, g3, g4]) rfl (HEND.out _ _ ?_ HD.out rfl)
    repeat (first | exact (Kp.refl _ _).drewN q | refine Kp.setCell ?_ (.inl (.inl rfl)) _)
  | false =>
    have HD := Lib.hid hd
    clear hd
    go_wp2
    refine bodyPost_ret (v := .tuple #[.agg #[.bool false, .int .i64 0, .slice none 0 0, .slice none 0 0, .slice none 0 0], .bool false]) (by simp [results, Try.results30, go_sem, g0, g1, g2, g3, g4]) rfl (HEND0.out _ _ ?_ HD.out rfl)
    repeat (first | exact (Kp.refl _ _).drewN q | refine Kp.setCell ?_ (.inl (.inl rfl)) _)

theorem unpack_any (v : Value) (n : Nat) (xs : List Int) (w : World) (hown : w.ownsRow 0 2 1 v n (ints xs)) (hn : n ≤ 1000000) (h64 : ∀ k, I64 (xs.getD k 0)) :
    Calls Try.prog 30 #[v] w fun r w' => Unpacked w w' xs r := by
  by_cases h : n = 28 ∧ 16 ≤ xs.getD 0 0 ∧ xs.getD 0 0 ≤ 130
  · obtain ⟨rfl, h⟩ := h
    exact unpack_big v xs w hown h h64
  · exact unpack_small v n xs w hown hn h
end Go.Proofs.Ytljjobdboambiaa
