/- settle.Free; the sort of what has at most one element; Reached. -/
import Derived.Test.YtljjobdboambiaaSettleB
namespace Go.Proofs.Ytljjobdboambiaa
open Go.RowKit Samara

theorem infoInt3 : (Try.prog.info? 3).map (fun i => (i.zero, i.size, i.bytes)) = some (some (.int .i64 0), 1, 8) := by kernel_rfl
theorem cellVal_ok {m : Mm} (h : Mm.Ok m) (i : Int) : I64 (cellVal m i) := by
  unfold cellVal
  split
  · exact lookAt_ok h i 1 0
  · exact ⟨by decide, by decide⟩
theorem freeLoop_eq (l : LandSt) (f : Nat) (at_ : Int) (out : List Int) : freeLoop l f at_ out =
    if at_ = 0 then (out, true) else if at_ < 0 ∨ (l.c.n : Int) < at_ ∨ l.c.n ≤ out.length then ([], false) else
    match f with
    | 0 => ([], false)
    | f + 1 => freeLoop l f (cellVal l.mm (cellOf l.c at_ 0)) (out ++ [at_]) := by
  cases f <;> rfl

/-- A result that is a slice of int and a bool. -/
def FreeOk (w w' : World) (res : List Int × Bool) (e : Ending) : Prop :=
  ∃ v', e = .returned (.tuple #[v', .bool res.2]) ∧ w'.ownsRow 0 3 1 v' res.1.length (ints res.1) ∧ (∀ g, v'.ownBlock = some g → w.heap.size ≤ g) ∧ Kp (fun _ => False) w w'

set_option maxHeartbeats 2000000 in
theorem settleFree (A : Adr) (L : LandSt) (w : World) (hL : LandIs w A L) :
    Calls Try.prog 17 #[.pointer (some ⟨A.l, 0, none⟩)] w fun e w' => FreeOk w w' (freeOf L) e := by
  have hn := hL.n_le
  have hcl := settleCell A L 21 w hL
  have hok0 := cellVal_ok hL.ok 21
  have hres : freeOf L = freeLoop L L.c.n (cellVal L.mm 21) [] := rfl
  generalize cellVal L.mm 21 = at0 at hcl hok0 hres
  have hnext : ∀ wr, Kp (fun _ => False) w wr → ∀ x, I64 x → Calls Try.prog 13 #[.pointer (some ⟨A.a, 0, none⟩), .int .i64 x, .int .i64 0] wr (fun e w' => e = .returned (.int .i64 (cellOf L.c x 0)) ∧ wr = w') := by
    intro wr hk x hx
    have := cell_any A.a A.s L.c.first L.ar x 0 hx wr (hL.keep0 hk).a
    rw [← hL.cfg] at this
    exact this
  have hval : ∀ wr, Kp (fun _ => False) w wr → ∀ i, Calls Try.prog 21 #[.pointer (some ⟨A.l, 0, none⟩), .int .i64 i] wr (fun e w' => e = .returned (.int .i64 (cellVal L.mm i)) ∧ Kp (fun _ => False) wr w') :=
    fun wr hk i => settleCell A L i wr (hL.keep0 hk)
  obtain ⟨i0, hi, hz0, hz1, hz2⟩ := info_parts infoInt3
  have HCL := Lib.hid hcl
  have HN := Lib.hid hnext
  have HV := Lib.hid hval
  have HRES := Lib.hid hres
  have HL := Lib.hid hL
  have HOK := Lib.hid hL.ok
  clear hcl hnext hval hres hL
  go_enter Try.func17, Try.ntmps17
  go_wp2_with fail
  ((with_reducible refine HCL.out.mono ?_))
  rintro r w1 ⟨rfl, hk1⟩
  go_wp2
  go_loopw [4, 5] (fun vv at_ wr => ∃ (x : Int) (f : Nat) (outs : List Int), at_ = .int .i64 x ∧ I64 x ∧ f + outs.length = L.c.n ∧ wr.ownsRow 0 3 1 vv outs.length (ints outs) ∧
      Hid (∀ b, vv.ownBlock = some b → w.heap.size ≤ b) ∧ Hid (freeOf L = freeLoop L f x outs) ∧ Hid (Kp (fun _ => False) w wr)) (fun vv _ _ => match vv with | .slice _ n _ => L.c.n + 1 - n | _ => 0)
  case atStart => exact ⟨at0, L.c.n, [], rfl, hok0, by simp, World.ownsRow_nil _ _ _ _, Lib.hid (fun b hb => by simp [Value.ownBlock] at hb), HRES, Lib.hid hk1⟩
  case round =>
    obtain ⟨x, f, outs, rfl, hx, hf, hvv, hvb, hloop, hkp⟩ := hrel
    obtain ⟨vA, vc, rfl⟩ := own_form hvv
    have hl2 := hloop.out
    rw [freeLoop_eq] at hl2
    have hLr := HL.out.keep0 hkp.out
    have c2 := (hLr.l.cell 2).trans rfl
    have c1 := (hLr.l.cell 1).trans rfl
    clear hLr hloop
    by_cases hx0 : x = 0
    · subst hx0
      simp only [if_true] at hl2
      have HF := Lib.hid hl2
      have HVV := Lib.hid hvv
      clear hl2 hvv
      go_wp2
      go_ret2
      exact ⟨_, by rw [HF.out]; rfl, by rw [HF.out]; exact HVV.out, hvb.out, hkp.out⟩
    · rw [if_neg hx0] at hl2
      by_cases hbad : x < 0 ∨ (L.c.n : Int) < x ∨ L.c.n ≤ outs.length
      · rw [if_pos hbad] at hl2
        have HF := Lib.hid hl2
        clear hl2 hvv
        by_cases h1 : x < 0
        · clear hbad
          go_wp2
          go_ret2
          exact ⟨_, by rw [HF.out]; rfl, by rw [HF.out]; exact World.ownsRow_nil _ _ _ _, fun g hg => by simp [Value.ownBlock] at hg, hkp.out⟩
        · by_cases h2 : (L.c.n : Int) < x
          · clear hbad
            go_wp2
            go_ret2
            exact ⟨_, by rw [HF.out]; rfl, by rw [HF.out]; exact World.ownsRow_nil _ _ _ _, fun g hg => by simp [Value.ownBlock] at hg, hkp.out⟩
          · have h3 : (L.c.n : Int) ≤ (outs.length : Int) := by omega
            clear hbad
            go_wp2
            go_ret2
            exact ⟨_, by rw [HF.out]; rfl, by rw [HF.out]; exact World.ownsRow_nil _ _ _ _, fun g hg => by simp [Value.ownBlock] at hg, hkp.out⟩
      · rw [if_neg hbad] at hl2
        obtain ⟨f, rfl⟩ : ∃ q, f = q + 1 := ⟨f - 1, by omega⟩
        simp only at hl2
        have h1 : ¬ x < 0 := by omega
        have h2 : ¬ (L.c.n : Int) < x := by omega
        have h3 : ¬ (L.c.n : Int) ≤ (outs.length : Int) := by omega
        have hv6 : (wr.alloc (.cells #[.int .i64 x] 3)).ownsRow 0 3 1 (.slice vA outs.length vc) outs.length (ints outs) := hvv.alloc _
        have hrd6 : Rd (wr.alloc (.cells #[.int .i64 x] 3)) 1 (some ⟨wr.heap.size, 0, none⟩) 1 (ints [x]) := by
          refine ⟨rfl, fun _ => ⟨_, rfl, ?_⟩⟩
          intro j u hu
          match j, hu with
          | 0, hu =>
            simp only [ints, List.map_cons, List.map_nil, List.getElem?_cons_zero, Option.some.injEq] at hu
            subst hu
            simp [Addr.add]
        have q1 : outs.length + 1 ≤ maxLen := by unfold maxLen; omega
        have q2 : (outs.length + 1) * 8 ≤ 140737488355328 := by omega
        have HV6 := Lib.hid hv6
        have HRD6 := Lib.hid hrd6
        have Q6 := Lib.hid q1
        have Q7 := Lib.hid q2
        have HF := Lib.hid hl2
        clear hv6 hrd6 q1 q2 hl2 hvv hbad
        go_wp2_with (at_builtin; refine wpList_append_rd _ rfl (.tmp 37) (.tmp 39) 51 rfl 0 3 i0 (.int .i64 0) 1 8 Try.underlying51 hi hz0 hz1 hz2 rfl (by decide) _ _ _ rfl HV6.out _ _ _ (ints [x]) rfl HRD6.out mem_ints_one Q6.out Q7.out (Nat.zero_le _) ?_)
        intro v7 w7 hown7 hgrow hblk
        have hkp7 : Kp (fun _ => False) w w7 := (hkp.out.alloc _).grown hgrow fun b e => .inr (hvb.out b e)
        have hvb7 : ∀ b, v7.ownBlock = some b → w.heap.size ≤ b := by
          intro b hb
          rcases hblk with h1 | h1
          · exact hvb.out b (by rw [← h1]; exact hb)
          · rw [h1] at hb; injection hb with hb; have := hkp.out.size; first | omega | (simp at hb; omega)
        have hown7' : w7.ownsRow 0 3 1 v7 (outs ++ [x]).length (ints (outs ++ [x])) := by
          have e1 : (outs ++ [x]).length = outs.length + 1 := by simp
          rw [e1]; simpa [ints] using hown7
        have hL7 := HL.out.keep0 hkp7
        have c17 := (hL7.l.cell 1).trans rfl
        have HKP7 := Lib.hid hkp7
        have HVB7 := Lib.hid hvb7
        have HO7 := Lib.hid hown7'
        clear hkp7 hvb7 hown7 hown7' hgrow hblk hL7 c1 c2
        go_wp2_with fail
        ((with_reducible refine (HN.out w7 HKP7.out x hx).mono ?_))
        rintro r w8 ⟨rfl, rfl⟩
        go_wp2_with fail
        ((with_reducible refine (HV.out w7 HKP7.out _).mono ?_))
        rintro r w9 ⟨rfl, hk9⟩
        obtain ⟨v7A, v7c, rfl⟩ := own_form HO7.out
        have hx9 := cellVal_ok HOK.out (cellOf L.c x 0)
        generalize cellVal L.mm (cellOf L.c x 0) = y at HF hx9 ⊢
        have HO9 := Lib.hid (own_keep HO7.out hk9 (off_false _))
        have HK9 := Lib.hid (HKP7.out.trans' hk9)
        clear hk9
        go_wp2
        have e1 : (outs ++ [x]).length = outs.length + 1 := by simp
        go_roundw
        case rel => exact ⟨y, f, outs ++ [x], rfl, hx9, by simp; omega, by have h := HO9.out; rw [e1] at h ⊢; exact h, Lib.hid (by have h := HVB7.out; rw [e1] at h; exact h), HF, HK9⟩
        case measure => simp; omega
end Go.Proofs.Ytljjobdboambiaa
