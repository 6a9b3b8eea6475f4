/- settle: a cell's value, a node's words. -/
import Derived.Test.YtljjobdboambiaaSlotC
import Derived.Test.YtljjobdboambiaaSettleM
namespace Go.Proofs.Ytljjobdboambiaa
open Go.RowKit Samara

def Mm.Ok (m : Mm) : Prop := ∀ k, I64 (m.cells.getD k 0)
/-- A land's blocks. -/
structure LandIs (w : World) (A : Adr) (L : LandSt) : Prop where
  l : Blk w A.l 28 #[.pointer (some ⟨A.m, 0, none⟩), .pointer (some ⟨A.a, 0, none⟩), .int .i64 L.c.n]
  m : MemIs w A.m A.c L.mm
  a : ArenaIs w A.a A.s L.c.first L.ar
  cfg : L.c = cfgOf L.c.first L.ar.slots.length
  ok : Mm.Ok L.mm
theorem LandIs.keep {w w' : World} {A : Adr} {L : LandSt} {F : Nat → Prop} (h : LandIs w A L) (hk : Kp F w w') (hl : ¬ F A.l) (hm : ¬ F A.m) (hc : ¬ F A.c) (ha : ¬ F A.a) (hs : ¬ F A.s) : LandIs w' A L :=
  ⟨h.l.keep hk hl, h.m.keep hk hm hc, h.a.keep hk ha hs, h.cfg, h.ok⟩
theorem LandIs.keep0 {w w' : World} {A : Adr} {L : LandSt} (h : LandIs w A L) (hk : Kp (fun _ => False) w w') : LandIs w' A L :=
  h.keep hk (fun e => e) (fun e => e) (fun e => e) (fun e => e) (fun e => e)
theorem LandIs.n_le {w : World} {A : Adr} {L : LandSt} (h : LandIs w A L) : L.c.n ≤ 1000 := by have := h.cfg; have := h.a.len; rw [h.cfg]; exact this

theorem lookAt_ok {m : Mm} (h : Mm.Ok m) (i n : Int) : ∀ k, I64 ((lookAt m.cells i n).getD k 0) := by
  intro k
  unfold lookAt
  simp only [List.getD_eq_getElem?_getD, List.getElem?_take, List.getElem?_drop]
  split
  · simpa using h _
  · exact ⟨by decide, by decide⟩

set_option maxHeartbeats 1000000 in
theorem settleCell (A : Adr) (L : LandSt) (i : Int) (w : World) (h : LandIs w A L) :
    Calls Try.prog 21 #[.pointer (some ⟨A.l, 0, none⟩), .int .i64 i] w fun e w' => e = .returned (.int .i64 (cellVal L.mm i)) ∧ Kp (fun _ => False) w w' := by
  have hc0 := (h.l.cell 0).trans rfl
  have hlook := memLook w A.m A.c L.mm i 1 h.m
  have hval : ∀ b : Bool, (decide (0 ≤ i) && decide ((lookAt L.mm.cells i 1).length = 1)) = b → cellVal L.mm i = if b then (lookAt L.mm.cells i 1).getD 0 0 else 0 := by
    intro b hb; unfold cellVal; rw [hb]
  generalize lookAt L.mm.cells i 1 = x at hlook hval
  have HV := Lib.hid hval
  have HL := Lib.hid hlook
  clear hval hlook h
  go_enter Try.func21, Try.ntmps21
  go_wp2_with fail
  ((with_reducible refine HL.out.mono ?_))
  rintro r w1 ⟨v, rfl, hv, hk⟩
  obtain ⟨B, d, rfl⟩ := own_form hv
  by_cases h0 : 0 ≤ i
  · by_cases h1 : x.length = 1
    · have hB : ∃ g, B = some ⟨g, 0, none⟩ := by
        rcases hv.2 with ⟨_, h2⟩ | ⟨g, cap, cur, he, _⟩
        · omega
        · injection he with he; exact ⟨g, he⟩
      obtain ⟨g, rfl⟩ := hB
      have hcell : w1.cell? ⟨g, 0, none⟩ = some (.int .i64 (x.getD 0 0)) := by
        have := hv.cellAt 0 (by omega)
        rw [this]; simp [ints, h1]
      have hfin := HV.out true (by simp [h0, h1])
      simp only [if_true] at hfin
      have hb : ((x.length : Int) == 1) = true := by simp [h1]
      rw [h1]
      generalize x.getD 0 0 = y at hcell hfin
      have HF := Lib.hid hfin
      clear hfin HV hv hb h1 HL
      go_wp2
      go_ret
      exact ⟨by rw [HF.out]; rfl, hk⟩
    · have hfin := HV.out false (by simp [h1])
      have hb : ¬ ((x.length : Int) = 1) := by omega
      simp only [Bool.false_eq_true, if_false] at hfin
      have HF := Lib.hid hfin
      clear hfin HV hv h1 HL
      go_wp2
      go_ret
      exact ⟨by rw [HF.out]; rfl, hk⟩
  · have hfin := HV.out false (by simp [h0])
    simp only [Bool.false_eq_true, if_false] at hfin
    have HF := Lib.hid hfin
    clear hfin HV hv HL
    go_wp2
    go_ret
    exact ⟨by rw [HF.out]; rfl, hk⟩

def wordsB (l : LandSt) (h : Int) : List Int := nodeWords l h
set_option maxHeartbeats 1000000 in
theorem settleWords (A : Adr) (L : LandSt) (hd : Int) (hh : I64 hd) (w : World) (h : LandIs w A L) :
    Calls Try.prog 31 #[.pointer (some ⟨A.l, 0, none⟩), .int .i64 hd] w fun e w' => ∃ v, e = .returned v ∧ w'.ownsRow 0 2 1 v (wordsB L hd).length (ints (wordsB L hd)) ∧ New w v ∧ Kp (fun _ => False) w w' := by
  have hc0 := (h.l.cell 0).trans rfl
  have hc1 := (h.l.cell 1).trans rfl
  have hcell := cell_any A.a A.s L.c.first L.ar hd 0 hh w h.a
  rw [← h.cfg] at hcell
  have hlook := memLook w A.m A.c L.mm (cellOf L.c hd 0) 28 h.m
  have hval : wordsB L hd = if cellOf L.c hd 0 < 0 ∨ (lookAt L.mm.cells (cellOf L.c hd 0) 28).length ≠ 28 then [] else ((lookAt L.mm.cells (cellOf L.c hd 0) 28).set 26 0).set 27 0 := rfl
  generalize lookAt L.mm.cells (cellOf L.c hd 0) 28 = x at hlook hval
  generalize cellOf L.c hd 0 = at_ at *
  have HV := Lib.hid hval
  have HL := Lib.hid hlook
  have HC := Lib.hid hcell
  clear hval hlook hcell h
  go_enter Try.func31, Try.ntmps31
  go_wp2_with fail
  ((with_reducible refine HC.out.mono ?_))
  rintro r w1 ⟨rfl, rfl⟩
  go_wp2_with fail
  ((with_reducible refine HL.out.mono ?_))
  rintro r w1 ⟨v, rfl, hv, hk⟩
  obtain ⟨B, d, rfl⟩ := own_form hv
  by_cases h1 : at_ < 0 ∨ x.length ≠ 28
  · have hfin : wordsB L hd = [] := by rw [HV.out, if_pos h1]
    have HF := Lib.hid hfin
    clear hfin HV hv HL HC
    by_cases h2 : at_ < 0
    all_goals
      have h3 : at_ < 0 ∨ ¬ ((x.length : Int) = 28) := by omega
      try replace h3 : ¬ ((x.length : Int) = 28) := by omega
      clear h1
      go_wp2
      go_ret
      refine ⟨_, rfl, ?_, fun g hg => by simp [Value.ownBlock] at hg, hk⟩
      rw [HF.out]
      exact World.ownsRow_nil _ _ _ _
  · have h2 : 0 ≤ at_ := by omega
    have h3 : x.length = 28 := by omega
    obtain ⟨g, rfl⟩ : ∃ g, B = some ⟨g, 0, none⟩ := by
      rcases hv.2 with ⟨_, h2⟩ | ⟨g, cap, cur, he, _⟩
      · omega
      · injection he with he; exact ⟨g, he⟩
    have hfin : wordsB L hd = (x.set 26 0).set 27 0 := by rw [HV.out, if_neg h1]
    have hst := (hv.stored 26 (.int .i64 0))
    have hst2 := hst.1.stored 27 (.int .i64 0)
    have e1 : ((ints x).set 26 (.int .i64 0)).set 27 (.int .i64 0) = ints ((x.set 26 0).set 27 0) := by simp [ints, List.map_set]
    have hlt := hv.lt g rfl
    have hown : ((w1.setCell ⟨g, 26, none⟩ (.int .i64 0)).setCell ⟨g, 27, none⟩ (.int .i64 0)).ownsRow 0 2 1 (.slice (some ⟨g, 0, none⟩) x.length d) (wordsB L hd).length (ints (wordsB L hd)) := by
      rw [hfin, ← e1]
      have := hst2.1
      have e2 : ((x.set 26 0).set 27 0).length = x.length := by simp
      rw [e2]
      exact ⟨this.1, by
        rcases this.2 with ⟨h, _⟩ | ⟨g', cap, cur, h4, h5, h6⟩
        · exact absurd h (by simp)
        · exact .inr ⟨g', cap, cur, h4, Nat.zero_le _, h6⟩⟩
    have hc26 : w1.cell? ⟨g, 26, none⟩ = some (.int .i64 (x.getD 26 0)) := by
      rw [hv.cellAt 26 (by omega)]; simp [ints, h3]
    have hc27 : w1.cell? ⟨g, 27, none⟩ = some (.int .i64 (x.getD 27 0)) := by
      rw [hv.cellAt 27 (by omega)]; simp [ints, h3]
    have hf26 := hv.frozenAt 26
    have hf27 := hv.frozenAt 27
    have hkp : Kp (fun _ => False) w ((w1.setCell ⟨g, 26, none⟩ (.int .i64 0)).setCell ⟨g, 27, none⟩ (.int .i64 0)) := (hk.setCell (.inr hlt.1) _).setCell (.inr hlt.1) _
    rw [h3] at hown ⊢
    generalize x.getD 26 0 = y26 at hc26
    generalize x.getD 27 0 = y27 at hc27
    have HO := Lib.hid hown
    have HKP := Lib.hid hkp
    clear hfin HV hv HL HC h1 h3 hst hst2 e1 hown hkp hk
    go_wp2
    go_ret
    exact ⟨_, rfl, HO.out, fun b hb => by simp [Value.ownBlock] at hb; omega, HKP.out⟩
end Go.Proofs.Ytljjobdboambiaa
