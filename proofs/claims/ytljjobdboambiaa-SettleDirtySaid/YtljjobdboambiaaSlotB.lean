/- slot: filled, Pack, Unpack. -/
import Derived.Test.YtljjobdboambiaaSlotA
namespace Go.Proofs.Ytljjobdboambiaa
open Go.RowKit Samara

theorem formed_any (inner : Bool) (lo : Int) (e s g : Sl) (w : World) (he : e.Is w) (hs : s.Is w) (hg : g.Is w) (hlo : I64 lo) (h64 : ∀ k, I64 (e.xs.getD k 0)) (hle : e.xs.length ≤ 1000000) :
    Calls Try.prog 27 #[nodeV inner lo e s g] w fun r w' => r = .returned (.bool (formedB (nodeOf' inner lo e s g))) ∧ Kp (fun _ => False) w w' := by
  by_cases h : 1 ≤ e.xs.length ∧ e.xs.length ≤ 8 ∧ s.xs.length = e.xs.length ∧ g.xs.length = e.xs.length ∧ 65536 ≤ lo ∧ lo % 4096 = 0 ∧ e.xs.getD (e.xs.length - 1) 0 ≤ 2097152
  · rw [formedB_eq inner lo e s g h]
    exact formed_yes inner lo e s g w he hs hg hlo h64 h
  · rw [formedB_no inner lo e s g h]
    exact formed_no inner lo e s g w he hlo hle h

set_option maxHeartbeats 1000000 in
theorem filled_any (v : Value) (n : Nat) (xs : List Int) (m : Nat) (q : Int) (w : World) (hq : q = (m : Int)) (hown : w.ownsRow 0 2 1 v n (ints xs)) (hnm : n ≤ m) (hm : m ≤ 1000000) :
    Calls Try.prog 28 #[v, .int .i64 q] w fun e w' => ∃ v', e = .returned v' ∧ w'.ownsRow 0 2 1 v' m (ints (filled xs m)) ∧ Kp (fun b => v.ownBlock = some b) w w' ∧
      (v'.ownBlock = v.ownBlock ∨ v'.ownBlock = some w.heap.size) := by
  subst hq
  obtain ⟨i0, hi, hz0, hz1, hz2⟩ := info_parts infoInt
  have hl : xs.length = n := by simpa using hown.1
  have hlen : ∃ A c, v = .slice A n c := by
    rcases hown.2 with ⟨rfl, rfl⟩ | ⟨g, cap, cur, rfl, _⟩
    · exact ⟨_, _, rfl⟩
    · exact ⟨_, _, rfl⟩
  obtain ⟨A, c, rfl⟩ := hlen
  have e : ((m : Int) - (n : Int)) = ((m - n : Nat) : Int) := by omega
  have HE := Lib.hid e
  have HO := Lib.hid hown
  have HL := Lib.hid hl
  clear hown hl e
  go_enter Try.func28, Try.ntmps28
  go_wp2_with (at_builtin; refine wpList_append_zeros _ rfl _ _ 34 3 rfl 2 i0 (.int .i64 0) .i64 Try.underlying34 Try.underlying3 hi hz0 hz1 hz2 rfl rfl _ n (ints xs) rfl HO.out (m - n) _ rfl HE.out (by omega) ?_)
  intro v' w1 hown' hgrow hblk
  have hown2 : w1.ownsRow 0 2 1 v' m (ints (filled xs m)) := by
    have e1 : n + (m - n) = m := by omega
    have e2 : ints (filled xs m) = ints xs ++ List.replicate (m - n) (.int .i64 0) := by simp [ints, filled, HL.out]
    rw [e2]
    try rw [e1] at hown'
    exact hown'
  have hk : Kp (fun b => (Value.slice A n c).ownBlock = some b) w w1 := (Kp.refl _ _).grown hgrow fun k hk => .inl hk
  have H1 := Lib.hid hown2
  have H2 := Lib.hid hk
  have H3 := Lib.hid hblk
  clear hown' hgrow hblk hown2 hk
  go_wp2
  go_ret
  exact ⟨_, rfl, H1.out, H2.out, H3.out⟩

/-- A slice's block is new since. -/
def New (w : World) (v : Value) : Prop := ∀ g, v.ownBlock = some g → w.heap.size ≤ g
def packB (n : Samara.Node) : List Int := pack n
theorem pack_no (n : Samara.Node) (h : formedB n = false) : packB n = [] := by unfold packB pack; unfold formedB at h; rw [h]; rfl
theorem pack_yes (n : Samara.Node) (h : formedB n = true) :
    packB n = filled (filled (filled ([(if n.inner then 2 else 1) + 16 * (n.ends.length : Int), n.lo] ++ n.ends) 10 ++ n.slots) 18 ++ n.gaps) 28 := by unfold packB pack; unfold formedB at h; rw [h]; rfl
theorem filled_length (l : List Int) (n : Nat) (h : l.length ≤ n) : (filled l n).length = n := by simp [filled]; omega

/-- Nothing of old is turned: what is written is new. -/
theorem Kp.into {w w' w'' : World} {v : Value} (h : Kp (fun _ => False) w w') (k : Kp (fun b => v.ownBlock = some b) w' w'') (hn : New w v) : Kp (fun _ => False) w w'' :=
  h.trans k fun b hb hv => by have := hn b hv; omega
theorem New.of_grown {w w' : World} {v v' : Value} (hn : New w v) (hs : w.heap.size ≤ w'.heap.size) (h : v'.ownBlock = v.ownBlock ∨ v'.ownBlock = some w'.heap.size) : New w v' := by
  intro g hg
  rcases h with h | h
  · exact hn g (by rw [← h]; exact hg)
  · rw [h] at hg; injection hg with hg; omega

theorem appended {w wc w' : World} {v v' : Value} (hk : Kp (fun _ => False) w wc) (hn : New w v) (hg : wc.grownBy w' v.ownBlock) (hb : v'.ownBlock = v.ownBlock ∨ v'.ownBlock = some wc.heap.size) :
    Kp (fun _ => False) w w' ∧ New w v' :=
  ⟨hk.grown hg fun g h => .inr (hn g h), hn.of_grown hk.size hb⟩
theorem mem_ints_one {l : List Int} : ∀ u ∈ ints l, u.oneCell' = true := by
  intro u hu; simp only [ints, List.mem_map] at hu; obtain ⟨x, _, rfl⟩ := hu; rfl

set_option maxHeartbeats 1000000 in
theorem pack_any (inner : Bool) (lo : Int) (e s g : Sl) (w : World) (he : e.Is w) (hs : s.Is w) (hg : g.Is w) (hlo : I64 lo) (h64 : ∀ k, I64 (e.xs.getD k 0)) (hle : e.xs.length ≤ 1000000) :
    Calls Try.prog 12 #[nodeV inner lo e s g] w fun r w' => ∃ v, r = .returned v ∧ w'.ownsRow 0 2 1 v (packB (nodeOf' inner lo e s g)).length (ints (packB (nodeOf' inner lo e s g))) ∧ New w v ∧ Kp (fun _ => False) w w' := by
  have hf : ∀ w1, Kp (fun _ => False) w w1 → Calls Try.prog 27 #[nodeV inner lo e s g] w1 fun r w' => r = .returned (.bool (formedB (nodeOf' inner lo e s g))) ∧ Kp (fun _ => False) w1 w' :=
    fun w1 h1 => formed_any inner lo e s g w1 (he.keep h1 (off_false _)) (hs.keep h1 (off_false _)) (hg.keep h1 (off_false _)) hlo h64 hle
  unfold nodeV Sl.v at hf ⊢
  have HF := Lib.hid hf
  clear hf
  have hB := Blk.new w 40 #[.bool inner, .int .i64 lo, .slice e.A e.xs.length e.c, .slice s.A s.xs.length s.c, .slice g.A g.xs.length g.c]
  have hK := (Kp.refl (fun _ => False) w).alloc (.cells #[.bool inner, .int .i64 lo, .slice e.A e.xs.length e.c, .slice s.A s.xs.length s.c, .slice g.A g.xs.length g.c] 40)
  generalize hW1 : w.alloc (.cells #[.bool inner, .int .i64 lo, .slice e.A e.xs.length e.c, .slice s.A s.xs.length s.c, .slice g.A g.xs.length g.c] 40) = W1 at hB hK
  have HB := Lib.hid hB
  have HK := Lib.hid hK
  have d0 := (hB.cell 0).trans rfl
  have d1 := (hB.cell 1).trans rfl
  have d2 := (hB.cell 2).trans rfl
  have d3 := (hB.cell 3).trans rfl
  have d4 := (hB.cell 4).trans rfl
  have hsz : W1.heap.size = w.heap.size + 1 := by rw [← hW1]; simp
  clear hB hK
  cases hfb : formedB (nodeOf' inner lo e s g) with
  | false =>
    rw [pack_no _ hfb]
    have hcl := HF.out W1 HK.out
    rw [hfb] at hcl
    have HCL := Lib.hid hcl
    clear hcl hfb
    go_enter Try.func12, Try.ntmps12
    go_wp2_with fail
    ((with_reducible refine HCL.out.mono ?_))
    rintro r w2 ⟨rfl, hk2⟩
    clear hW1 d0 d1 d2 d3 d4
    go_wp2
    go_ret
    exact ⟨_, rfl, World.ownsRow_nil _ _ _ _, fun g hg => by simp [Value.ownBlock] at hg, HK.out.trans' hk2⟩
  | true =>
    have hn := (nodeFormed_iff (nodeOf' inner lo e s g)).1 hfb
    have hcl := HF.out W1 HK.out
    rw [hfb] at hcl
    have HCL := Lib.hid hcl
    have HP := Lib.hid (pack_yes _ hfb)
    have n1 : e.xs.length ≤ 8 := hn.1.2.1
    have n2 : s.xs.length = e.xs.length := hn.1.2.2.1
    have n3 : g.xs.length = e.xs.length := hn.1.2.2.2.1
    have N2 := Lib.hid n2
    have N3 := Lib.hid n3
    clear hcl hfb hn n2 n3
    go_enter Try.func12, Try.ntmps12
    go_wp2_with fail
    refine HCL.out.mono ?_
    rintro r w2 ⟨rfl, hk2⟩
    have hkp := HK.out.trans' hk2
    have hB2 := HB.out.keep hk2 (fun e => e)
    clear hW1 d0 d1 d2 d3 d4
    have d0 := (hB2.cell 0).trans rfl
    have d1 := (hB2.cell 1).trans rfl
    have d2 := (hB2.cell 2).trans rfl
    have d3 := (hB2.cell 3).trans rfl
    have d4 := (hB2.cell 4).trans rfl
    have hsz2 : w.heap.size < w2.heap.size := by have := hk2.size; omega
    obtain ⟨i0, hi, hz0, hz1, hz2⟩ := info_parts infoInt
    obtain ⟨hd, hhd⟩ : ∃ hd : Int, hd = (if inner then 2 else 1) + 16 * (e.xs.length : Int) := ⟨_, rfl⟩
    have hO : (w2.alloc (.cells #[.int .i64 hd, .int .i64 lo] 2)).ownsRow 0 2 1 (.slice (some ⟨w2.heap.size, 0, none⟩) 2 2) 2 (ints [hd, lo]) :=
      World.ownsRow_lit w2 #[.int .i64 hd, .int .i64 lo] 2 (Nat.zero_le _) (by decide) rfl
    have hK3 := hk2.alloc (.cells #[.int .i64 hd, .int .i64 lo] 2)
    have hE3 : Rd (w2.alloc (.cells #[.int .i64 hd, .int .i64 lo] 2)) 1 e.A e.xs.length (ints e.xs) := he.keep (HK.out.trans' hK3) (off_false _)
    have hN3 : New W1 (.slice (some ⟨w2.heap.size, 0, none⟩) 2 2) := fun g hg => by have := hk2.size; simp [Value.ownBlock] at hg; omega
    have HO := Lib.hid hO
    have HK3 := Lib.hid hK3
    have HE3 := Lib.hid hE3
    have HN3 := Lib.hid hN3
    have HHD := Lib.hid hhd
    clear hO hK3 hE3 hN3 hhd hB2
    have hfin : ∀ (v : Value) (wc : World), wc.ownsRow 0 2 1 v 28 (ints (filled (filled (filled ([hd, lo] ++ e.xs) 10 ++ s.xs) 18 ++ g.xs) 28)) → New W1 v → Kp (fun _ => False) W1 wc →
        wc.ownsRow 0 2 1 v (packB (nodeOf' inner lo e s g)).length (ints (packB (nodeOf' inner lo e s g))) ∧ New w v ∧ Kp (fun _ => False) w wc := by
      intro v wc h1 h2 h3
      have e1 : packB (nodeOf' inner lo e s g) = filled (filled (filled ([hd, lo] ++ e.xs) 10 ++ s.xs) 18 ++ g.xs) 28 := by rw [HP.out, HHD.out]; rfl
      have e2 : (filled (filled (filled ([hd, lo] ++ e.xs) 10 ++ s.xs) 18 ++ g.xs) 28).length = 28 := by
        have l1 : (filled ([hd, lo] ++ e.xs) 10).length = 10 := filled_length _ _ (by simp; omega)
        have l2 : (filled (filled ([hd, lo] ++ e.xs) 10 ++ s.xs) 18).length = 18 := filled_length _ _ (by rw [List.length_append, l1, N2.out]; omega)
        exact filled_length _ _ (by rw [List.length_append, l2, N3.out]; omega)
      rw [e1, e2]
      exact ⟨h1, fun g hg => by have := h2 g hg; omega, HK.out.trans' h3⟩
    have HFIN := Lib.hid hfin
    clear hfin
    have M2 : s.xs.length ≤ 8 := by rw [N2.out]; exact n1
    have M3 : g.xs.length ≤ 8 := by rw [N3.out]; exact n1
    have hh : (if inner then (2 : Int) else 1) + 16 * (e.xs.length : Int) = hd := HHD.out.symm
    have Q1 : Hid (2 + e.xs.length ≤ maxLen ∧ 10 + s.xs.length ≤ maxLen ∧ 18 + g.xs.length ≤ maxLen) := Lib.hid (by unfold maxLen; omega)
    have Q2 : Hid ((2 + e.xs.length) * 8 ≤ 140737488355328 ∧ (10 + s.xs.length) * 8 ≤ 140737488355328 ∧ (18 + g.xs.length) * 8 ≤ 140737488355328) := Lib.hid (by omega)
    cases inner
    all_goals
      simp only [Bool.false_eq_true, if_false, if_true] at hh
      go_wp2_with (at_builtin; refine wpList_append_rd _ rfl (.tmp 19) (.tmp 21) 34 rfl 0 2 i0 (.int .i64 0) 1 8 Try.underlying34 hi hz0 hz1 hz2 rfl (by decide) _ _ _ rfl HO.out _ _ _ (ints e.xs) rfl HE3.out mem_ints_one Q1.out.1 Q2.out.1 (Nat.zero_le _) ?_)
      intro v1 w3 hown hgrow hblk
      have hA := appended (v' := v1) HK3.out HN3.out hgrow (by simpa using hblk)
      have hown : w3.ownsRow 0 2 1 v1 (2 + e.xs.length) (ints ([hd, lo] ++ e.xs)) := by simpa [ints] using hown
      have HA := Lib.hid hA
      have HO1 := Lib.hid hown
      clear hA hown hgrow hblk d0 d1 d2 d3 d4
      go_wp2_with fail
      ((with_reducible refine (filled_any v1 (2 + e.xs.length) ([hd, lo] ++ e.xs) 10 10 w3 rfl HO1.out (by omega) (by omega)).mono ?_))
      rintro r w4 ⟨v2, rfl, hown2, hkf, hblk2⟩
      have hK4 := HA.out.1.into hkf HA.out.2
      have hN4 := HA.out.2.of_grown HA.out.1.size hblk2
      have hB4 := HB.out.keep hK4 (fun e => e)
      have d3 := (hB4.cell 3).trans rfl
      have hS4 : Rd w4 1 s.A s.xs.length (ints s.xs) := hs.keep (HK.out.trans' hK4) (off_false _)
      have HO2 := Lib.hid hown2
      have HK4 := Lib.hid hK4
      have HN4 := Lib.hid hN4
      have HS4 := Lib.hid hS4
      clear hown2 hkf hblk2 hK4 hN4 hB4 hS4
      go_wp2_with (at_builtin; refine wpList_append_rd _ rfl (.tmp 24) (.tmp 26) 34 rfl 0 2 i0 (.int .i64 0) 1 8 Try.underlying34 hi hz0 hz1 hz2 rfl (by decide) v2 10 _ rfl HO2.out _ _ _ (ints s.xs) rfl HS4.out mem_ints_one Q1.out.2.1 Q2.out.2.1 (Nat.zero_le _) ?_)
      intro v3 w5 hown hgrow hblk
      have hA := appended HK4.out HN4.out hgrow hblk
      have hown : w5.ownsRow 0 2 1 v3 (10 + s.xs.length) (ints (filled ([hd, lo] ++ e.xs) 10 ++ s.xs)) := by simpa [ints] using hown
      have HA2 := Lib.hid hA
      have HO3 := Lib.hid hown
      clear hA hown hgrow hblk d3
      go_wp2_with fail
      ((with_reducible refine (filled_any v3 (10 + s.xs.length) (filled ([hd, lo] ++ e.xs) 10 ++ s.xs) 18 18 w5 rfl HO3.out (by omega) (by omega)).mono ?_))
      rintro r w6 ⟨v4, rfl, hown2, hkf, hblk2⟩
      have hK6 := HA2.out.1.into hkf HA2.out.2
      have hN6 := HA2.out.2.of_grown HA2.out.1.size hblk2
      have hB6 := HB.out.keep hK6 (fun e => e)
      have d4 := (hB6.cell 4).trans rfl
      have hS6 : Rd w6 1 g.A g.xs.length (ints g.xs) := hg.keep (HK.out.trans' hK6) (off_false _)
      have HO4 := Lib.hid hown2
      have HK6 := Lib.hid hK6
      have HN6 := Lib.hid hN6
      have HS6 := Lib.hid hS6
      clear hown2 hkf hblk2 hK6 hN6 hB6 hS6
      go_wp2_with (at_builtin; refine wpList_append_rd _ rfl (.tmp 29) (.tmp 31) 34 rfl 0 2 i0 (.int .i64 0) 1 8 Try.underlying34 hi hz0 hz1 hz2 rfl (by decide) v4 18 _ rfl HO4.out _ _ _ (ints g.xs) rfl HS6.out mem_ints_one Q1.out.2.2 Q2.out.2.2 (Nat.zero_le _) ?_)
      intro v5 w7 hown hgrow hblk
      have hA := appended HK6.out HN6.out hgrow hblk
      have hown : w7.ownsRow 0 2 1 v5 (18 + g.xs.length) (ints (filled (filled ([hd, lo] ++ e.xs) 10 ++ s.xs) 18 ++ g.xs)) := by simpa [ints] using hown
      have HA3 := Lib.hid hA
      have HO5 := Lib.hid hown
      clear hA hown hgrow hblk d4
      go_wp2_with fail
      ((with_reducible refine (filled_any v5 (18 + g.xs.length) (filled (filled ([hd, lo] ++ e.xs) 10 ++ s.xs) 18 ++ g.xs) 28 28 w7 rfl HO5.out (by omega) (by omega)).mono ?_))
      rintro r w8 ⟨v6, rfl, hown2, hkf, hblk2⟩
      have hK8 := HA3.out.1.into hkf HA3.out.2
      have hN8 := HA3.out.2.of_grown HA3.out.1.size hblk2
      have HE := Lib.hid (HFIN.out v6 w8 hown2 hN8 hK8)
      clear hown2 hkf hblk2 hK8 hN8
      go_wp2
      go_ret
      exact ⟨v6, rfl, HE.out.1, HE.out.2.1, HE.out.2.2⟩
end Go.Proofs.Ytljjobdboambiaa
