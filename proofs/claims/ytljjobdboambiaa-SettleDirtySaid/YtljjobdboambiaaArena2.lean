/- Handles; a slot that is born; what is live. -/
import Derived.Test.YtljjobdboambiaaArena
namespace Go.Proofs.Ytljjobdboambiaa
open Go.RowKit Samara

theorem or_slot (g : Int) (s : Nat) (hs : s < 65536) : bits .or .i64 (wrap64 (g * 65536)) s = wrap64 (g * 65536 + s) := by
  show IntKind.i64.wrap ((BitVec.ofInt 64 (wrap64 (g * 65536)) ||| BitVec.ofInt 64 (s : Int)).toNat : Int) = _
  have h1 : (BitVec.ofInt 64 (wrap64 (g * 65536))).toNat = (g * 65536 % 18446744073709551616).toNat := by
    rw [BitVec.toNat_ofInt]
    congr 1
    unfold wrap64
    omega
  have h2 : (BitVec.ofInt 64 (s : Int)).toNat = s := by
    rw [BitVec.ofInt_natCast, BitVec.toNat_ofNat]; exact Nat.mod_eq_of_lt (by omega)
  obtain ⟨q, hq⟩ : ∃ q : Nat, (g * 65536 % 18446744073709551616).toNat = 2 ^ 16 * q := ⟨(g % 281474976710656).toNat, by omega⟩
  rw [BitVec.toNat_or, h1, h2, hq, ← Nat.two_pow_add_eq_or_of_lt (by omega) q, ← hq, IntKind.wrap_i64]
  unfold wrap64
  omega

set_option maxHeartbeats 400000 in
theorem handle_at (a s : Nat) (first : Nat) (R : Ar) (n : Nat) (w : World) (h : ArenaIs w a s first R) (hn : n < R.slots.length) :
    Calls Try.prog 16 #[.pointer (some ⟨a, 0, none⟩), .int .i64 ((n : Int) + 1)] w fun e w' => e = .returned (.int .i64 (handleOf (R.slots.getD n (0, false)).1 ((n : Int) + 1))) ∧ w = w' := by
  have hc := h.c1
  have hl := h.len
  have hg := h.gen hn
  have ho := or_slot (R.slots.getD n (0, false)).1 (n + 1) (by omega)
  have he : handleOf (R.slots.getD n (0, false)).1 ((n : Int) + 1) = wrap64 ((R.slots.getD n (0, false)).1 * 65536 + ((n + 1 : Nat) : Int)) := by unfold handleOf; rw [w64_eq]; rfl
  rw [← ho] at he
  generalize (R.slots.getD n (0, false)).1 = g at hg he ho ⊢
  have hlt : ((n : Int) < (R.slots.length : Int)) := by omega
  have H := Lib.hid he
  clear he ho hn
  go_enter Try.func16, Try.ntmps16
  go_wp2
  go_ret
  exact ⟨by rw [H.out]; rfl, rfl⟩

/-- A slot's generation is raised, and it is live. -/
theorem ArenaIs.born {w : World} {a s : Nat} {first : Nat} {R : Ar} (h : ArenaIs w a s first R) (n : Nat) (hn : n < R.slots.length) (g : Int) (d : Bool) :
    ArenaIs (((w.setCell ⟨a, 3, none⟩ (.bool d)).setCell ⟨s, n * 2 + 1, none⟩ (.bool true)).setCell ⟨s, n * 2, none⟩ (.int .i64 g)) a s first { R with double := d, slots := R.slots.set n (g, true) } := by
  have hne := h.ne
  refine ⟨?_, ?_, by simpa using h.len, h.first⟩
  · have h1 := ((h.a.set_ 3 (.bool d)).far (p := ⟨s, n * 2 + 1, none⟩) hne (.bool true)).far (p := ⟨s, n * 2, none⟩) hne (.int .i64 g)
    simpa using h1
  · have h1 := ((h.s.far (p := ⟨a, 3, none⟩) hne.symm (.bool d)).set_ (n * 2 + 1) (.bool true)).set_ (n * 2) (.int .i64 g)
    have e : ((slotCells R.slots).toArray.setIfInBounds (n * 2 + 1) (.bool true)).setIfInBounds (n * 2) (.int .i64 g) = (slotCells (R.slots.set n (g, true))).toArray := by
      rw [slotCells_set _ _ _ hn]
      simp only [List.setIfInBounds_toArray]
      rw [List.set_comm _ _ (by omega)]
    rw [e] at h1
    exact h1

set_option maxHeartbeats 800000 in
theorem born_at (a s : Nat) (first : Nat) (R : Ar) (n : Nat) (w : World) (h : ArenaIs w a s first R) (hn : n < R.slots.length) :
    Calls Try.prog 6 #[.pointer (some ⟨a, 0, none⟩), .int .i64 ((n : Int) + 1)] w fun e w' =>
      e = .returned (.int .i64 (R.born ((n : Int) + 1)).1) ∧ ArenaIs w' a s first (R.born ((n : Int) + 1)).2 ∧ Kp (fun b => b = a ∨ b = s) w w' := by
  have hb : hasSlot R.slots.length ((n : Int) + 1) = true := by simp only [hasSlot, Bool.and_eq_true, decide_eq_true_eq]; omega
  have hat : R.at ((n : Int) + 1) = R.slots.getD n (0, false) := by unfold Ar.at; rw [show ((n : Int) + 1 - 1).toNat = n by omega]
  have hborn : R.born ((n : Int) + 1) = (handleOf (w64 ((R.slots.getD n (0, false)).1 + 1)) ((n : Int) + 1),
      { R with double := R.double || (R.slots.getD n (0, false)).2, slots := R.slots.set n (w64 ((R.slots.getD n (0, false)).1 + 1), true) }) := by
    unfold Ar.born
    rw [if_pos hb, hat, show ((n : Int) + 1 - 1).toNat = n by omega]
  rw [hborn]
  have hc1 := h.c1
  have hc3 := h.c3
  have hl := h.len
  have hg := h.gen hn
  have hv := h.live hn
  have hne := h.ne
  have hf3 := h.a.frozen 3
  have hf1 := h.s.frozen (n * 2)
  have hf2 := h.s.frozen (n * 2 + 1)
  have hlt : ((n : Int) < (R.slots.length : Int)) := by omega
  have hB := fun d g => h.born n hn g d
  rw [w64_eq]
  generalize hx : (R.slots.getD n (0, false)) = x at hg hv ⊢
  have HB := Lib.hid hb
  have HX := Lib.hid hx
  clear hb hat hborn hx
  have hend : ∀ d : Bool, Calls Try.prog 16 #[.pointer (some ⟨a, 0, none⟩), .int .i64 ((n : Int) + 1)]
      (((w.setCell ⟨a, 3, none⟩ (.bool d)).setCell ⟨s, n * 2 + 1, none⟩ (.bool true)).setCell ⟨s, n * 2, none⟩ (.int .i64 (wrap64 (x.1 + 1))))
      fun e w' => e = .returned (.int .i64 (handleOf (wrap64 (x.1 + 1)) ((n : Int) + 1))) ∧
        (((w.setCell ⟨a, 3, none⟩ (.bool d)).setCell ⟨s, n * 2 + 1, none⟩ (.bool true)).setCell ⟨s, n * 2, none⟩ (.int .i64 (wrap64 (x.1 + 1)))) = w' := by
    intro d
    have := handle_at a s first _ n _ (hB d (wrap64 (x.1 + 1))) (by simpa using hn)
    simpa [hn] using this
  have HE := Lib.hid hend
  have HBB := Lib.hid hB
  have HH := Lib.hid h
  clear hend hB h
  have hfin : ∀ d : Bool, Kp (fun b => b = a ∨ b = s) w (((w.setCell ⟨a, 3, none⟩ (.bool d)).setCell ⟨s, n * 2 + 1, none⟩ (.bool true)).setCell ⟨s, n * 2, none⟩ (.int .i64 (wrap64 (x.1 + 1)))) := fun d =>
    (((Kp.refl _ _).setCell (.inl (.inl rfl)) _).setCell (.inl (.inr rfl)) _).setCell (.inl (.inr rfl)) _
  have HF := Lib.hid hfin
  clear hfin
  have hhas : Calls Try.prog 15 #[.pointer (some ⟨a, 0, none⟩), .int .i64 ((n : Int) + 1)] w fun e w' => e = .returned (.bool true) ∧ w = w' := by
    have := has_any a s first R ((n : Int) + 1) w HH.out
    rwa [HB.out] at this
  have HS := Lib.hid hhas
  clear hhas
  cases hd : R.double with
  | true =>
    rw [hd] at hc3
    have HD := Lib.hid hd
    clear hd
    go_enter Try.func6, Try.ntmps6
    go_wp2_with (first
      | (go_at_call 15; refine HS.out.mono ?_; rintro e w' ⟨rfl, rfl⟩)
      | (go_at_call 16; refine (HE.out true).mono ?_; rintro e w' ⟨rfl, rfl⟩))
    go_ret
    exact ⟨rfl, HBB.out true _, HF.out true⟩
  | false =>
    rw [hd] at hc3
    have HD := Lib.hid hd
    clear hd
    go_enter Try.func6, Try.ntmps6
    go_wp2_with (first
      | (go_at_call 15; refine HS.out.mono ?_; rintro e w' ⟨rfl, rfl⟩)
      | (go_at_call 16; refine (HE.out x.2).mono ?_; rintro e w' ⟨rfl, rfl⟩))
    go_ret
    exact ⟨rfl, HBB.out x.2 _, HF.out x.2⟩

theorem liveFrom_snoc (l : List (Int × Bool)) (x : Int × Bool) : ∀ i, liveFrom i (l ++ [x]) = liveFrom i l ++ (if x.2 then [handleOf x.1 (i + l.length)] else []) := by
  induction l with
  | nil => intro i; simp only [List.nil_append, liveFrom, List.length_nil]; split <;> simp
  | cons y l ih =>
    intro i
    simp only [List.cons_append, liveFrom, ih, List.length_cons]
    rw [show i + 1 + (l.length : Int) = i + ((l.length + 1 : Nat) : Int) by omega]
    split <;> rfl
/-- What the first k slots have live. -/
def liveTo (R : Ar) (k : Nat) : List Int := liveFrom 1 (R.slots.take k)
theorem liveTo_succ (R : Ar) (k : Nat) (hk : k < R.slots.length) :
    liveTo R (k + 1) = liveTo R k ++ (if (R.slots.getD k (0, false)).2 then [handleOf (R.slots.getD k (0, false)).1 ((k : Int) + 1)] else []) := by
  unfold liveTo
  rw [List.take_succ_eq_append_getElem hk, liveFrom_snoc]
  have e : R.slots.getD k (0, false) = R.slots[k] := by simp [hk]
  rw [e, List.length_take, Nat.min_eq_left (by omega), show (1 : Int) + (k : Int) = (k : Int) + 1 by omega]
theorem liveTo_le (R : Ar) (k : Nat) : (liveTo R k).length ≤ k := by
  unfold liveTo
  have h : ∀ (l : List (Int × Bool)) i, (liveFrom i l).length ≤ l.length := by
    intro l
    induction l with
    | nil => intro i; simp [liveFrom]
    | cons x l ih => intro i; simp only [liveFrom]; split <;> have := ih (i + 1) <;> simp <;> omega
  exact Nat.le_trans (h _ _) (by simp; omega)

set_option maxHeartbeats 1000000 in
theorem live_any (a s : Nat) (first : Nat) (R : Ar) (w : World) (h : ArenaIs w a s first R) :
    Calls Try.prog 19 #[.pointer (some ⟨a, 0, none⟩)] w fun e w' => ∃ v, e = .returned v ∧ w'.ownsRow w.heap.size 2 1 v R.live.length (ints R.live) ∧ Kp (fun _ => False) w w' := by
  have hc1 := h.c1
  have hl := h.len
  obtain ⟨i0, hi, hz0, hz1, hz2⟩ := info_parts infoInt
  go_enter Try.func19, Try.ntmps19
  go_wp2
  go_loopw [3, 11] (fun v i wr => ∃ k : Nat, k ≤ R.slots.length ∧ i = .int .i64 k ∧ wr.ownsRow w.heap.size 2 1 v (liveTo R k).length (ints (liveTo R k)) ∧ Kp (fun _ => False) w wr) (fun _ i _ => R.slots.length - (intOf i).toNat)
  case atStart => exact ⟨0, Nat.zero_le _, rfl, World.ownsRow_nil _ _ _ _, Kp.refl _ _⟩
  case round =>
    obtain ⟨k, hk, rfl, hown, hkp⟩ := hrel
    by_cases hlt : k < R.slots.length
    · have hsz := hkp.size
      have hr := h.keep hkp (fun e => e) (fun e => e)
      have hg := hr.gen hlt
      have hv := hr.live hlt
      have hle := liveTo_le R k
      have hsucc := liveTo_succ R k hlt
      have hcall := fun w1 hw1 => handle_at a s first R k w1 (hr.keep (F := fun _ => False) hw1 (fun e => e) (fun e => e)) hlt
      generalize hx : R.slots.getD k (0, false) = x at hg hv hsucc hcall
      have HC := Lib.hid hcall
      have HS := Lib.hid hsucc
      have HX := Lib.hid hx
      clear hcall hsucc hx
      cases hlv : x.2 with
      | true =>
        rw [hlv] at hv
        have HL := Lib.hid hlv
        clear hlv
        go_wp2_with (first
          | (go_at_call 16; refine (HC.out _ ((Kp.refl _ _).alloc _)).mono ?_; rintro e w' ⟨rfl, rfl⟩)
          | (at_builtin; refine wpList_append_rd _ rfl _ _ 34 rfl w.heap.size 2 i0 (.int .i64 0) 1 8 Try.underlying34 hi hz0 hz1 hz2 rfl (by decide) _ _ _ rfl ((hown.alloc _).alloc _) _ 1 1 [.int .i64 (handleOf x.1 ((k : Int) + 1))] rfl ?c0 ?c1 ?c2 ?c3 ?c4 ?_))
        case c0 =>
          refine ⟨rfl, fun _ => ⟨_, rfl, ?_⟩⟩
          intro j u hu
          match j, hu with
          | 0, hu => simp at hu; subst hu; simp [Addr.add]
        case c1 => intro u hu; simp at hu; subst hu; rfl
        case c2 => unfold maxLen; omega
        case c3 => omega
        case c4 => simp; omega
        intro v' w1 hown' hgrow hblk
        have hkp1 : Kp (fun _ => False) w w1 := ((hkp.alloc _).alloc _).grown hgrow fun g hg' => .inr (hown.lt g hg').1
        clear hown hkp hgrow hblk
        go_wp2
        go_roundw
        case rel => exact ⟨k + 1, by omega, by go_num, by rw [HS.out, HL.out]; simpa [ints] using hown', hkp1⟩
        case measure => simp [intOf]; omega
      | false =>
        rw [hlv] at hv
        have HL := Lib.hid hlv
        clear hlv
        go_wp2
        go_roundw
        case rel => exact ⟨k + 1, by omega, by go_num, by rw [HS.out, HL.out]; simpa using hown.alloc _, hkp.alloc _⟩
        case measure => simp [intOf]; omega
    · obtain rfl : k = R.slots.length := by omega
      go_wp2
      go_ret
      refine ⟨_, rfl, ?_, hkp⟩
      have e : liveTo R R.slots.length = R.live := by simp [liveTo, Ar.live]
      rw [e] at hown
      exact hown
end Go.Proofs.Ytljjobdboambiaa
