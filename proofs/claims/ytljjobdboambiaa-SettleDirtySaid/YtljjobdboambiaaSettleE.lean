/- settle.Clean. -/
import Derived.Test.YtljjobdboambiaaSettleD
import Derived.Maps.Own
import Derived.Maps.OwnOps
import Derived.Maps.OwnSet
import Derived.Deep.RegionLaw
namespace Go.Proofs.Ytljjobdboambiaa
open Go.RowKit Samara Go.Maps

theorem eraseDups_snoc (l : List Int) (x : Int) : (l ++ [x]).eraseDups.length = if x ∈ l then l.eraseDups.length else l.eraseDups.length + 1 := by
  rw [List.eraseDups_append, List.length_append]
  by_cases h : x ∈ l
  · rw [if_pos h]
    have : [x].removeAll l = [] := by simp [List.removeAll, h]
    rw [this]; rfl
  · rw [if_neg h]
    have : [x].removeAll l = [x] := by simp [List.removeAll, h]
    rw [this]; rfl

/-- A map that has just these keys. -/
def Counts (D : DataW Unit) (keys : List Int) : Prop := Tidy D ∧ (∀ k, Maps.has D (.int .i64 k) = decide (k ∈ keys)) ∧ Maps.size D = keys.eraseDups.length
theorem counts_nil : Counts (.map []) [] := ⟨tidy_empty, fun k => by simp [Maps.has], rfl⟩
theorem keyLit (x : Int) : WideAt.IsKeyLit (.int .i64 x) := by simp [WideAt.IsKeyLit]
theorem Counts.put {D : DataW Unit} {keys : List Int} (h : Counts D keys) (x : Int) (d : DataW Unit) : Counts (D.put (.int .i64 x) d) (keys ++ [x]) := by
  obtain ⟨h1, h2, h3⟩ := h
  refine ⟨h1.put (keyLit x) d, fun k => ?_, ?_⟩
  · by_cases hk : k = x
    · subst hk
      rw [has_put_same h1.isMap (keyLit k) d]
      simp
    · rw [has_put_other (by simpa using hk) d, h2 k]
      simp [hk]
  · rw [size_put h1 d, h2 x, h3, eraseDups_snoc]
    simp only [decide_eq_true_eq]

section
variable {P : Program} {ops : Array Oper}
theorem quiet_len {C : World → Prop} {Q : Act → Prop} {rest : List Oper} {o : Oper} {a : Act} (m : Operand) (t : TypeId) (hop : o.op = .call { callee := .builtin .len, args := #[m], argTypes := #[t] }) (hg : o.guard = none)
    (v mv : Value) (hm : a.eval m = mv) (hrun : ∀ w, C w → ∀ ty, (Builtin.len_ #[t] ty #[mv]).run P w = .ok v w) (h : wpQuiet P ops C Q rest (a.put o.dst v)) : wpQuiet P ops C Q (o :: rest) a :=
  wpQuiet_step fun K hK => by
    simp only [Region.wanted, hg, if_true]
    refine ⟨v, fun w hw => ?_, hK _ h⟩
    unfold Oper.quietAt
    simp [execOp, hop, resolve, invoke, builtin, hm, hrun w hw, Result.andThen, Oper.quietUpon]
theorem still_len {Q : Act → Prop} {rest : List Oper} {o : Oper} {a : Act} {w : World} (m : Operand) (t : TypeId) (hop : o.op = .call { callee := .builtin .len, args := #[m], argTypes := #[t] }) (hg : o.guard = none)
    (v mv : Value) (hm : a.eval m = mv) (hrun : ∀ ty, (Builtin.len_ #[t] ty #[mv]).run P w = .ok v w) (h : wpStill P ops w Q rest (a.put o.dst v)) : wpStill P ops w Q (o :: rest) a :=
  wpStill_step fun K hK => by
    simp only [Region.wanted, hg, if_true]
    simp [Oper.still, Oper.stillUpon, execOp, hop, resolve, invoke, builtin, hm, hrun, Result.andThen]
    exact hK _ h
end
theorem zeroInt (w : World) : (zeroValue 3).run Try.prog w = .ok (.int .i64 0) w := by kernel_rfl
theorem int_wf {n : Int} (h : I64 n) : (Lit.int .i64 n).wf = true := WalkArith.wf_i64 h

/-- Reached is as it should be. -/
def ReachedLaw (A : Adr) (L : LandSt) (w : World) : Prop :=
  Calls Try.prog 9 #[.pointer (some ⟨A.l, 0, none⟩)] w fun e w' => ∃ v, e = .returned (.tuple #[v, .bool (reachedOf L).2]) ∧
      w'.ownsRow 0 2 1 v (reachedOf L).1.length (ints (reachedOf L).1) ∧ New w v ∧ Kp (fun _ => False) w w'

theorem clean_first (L : LandSt) (h : (reachedOf L).2 = false ∨ (freeOf L).2 = false ∨ (reachedOf L).1 ≠ L.ar.live ∨ (freeOf L).1.length + (reachedOf L).1.length ≠ L.c.n) : cleanOf L = false := by
  unfold cleanOf; rw [if_pos h]
theorem clean_then (L : LandSt) (h : ¬ ((reachedOf L).2 = false ∨ (freeOf L).2 = false ∨ (reachedOf L).1 ≠ L.ar.live ∨ (freeOf L).1.length + (reachedOf L).1.length ≠ L.c.n)) :
    cleanOf L = (decide ((((reachedOf L).1.map slotOf) ++ (freeOf L).1).eraseDups.length = L.c.n) && decide (cellVal L.mm 22 = cellVal L.mm 23) && decide (cellVal L.mm 0 = cellVal L.mm 1)) := by
  unfold cleanOf; rw [if_neg h]

set_option maxHeartbeats 1000000 in
theorem clean_no (A : Adr) (L : LandSt) (w : World) (hL : LandIs w A L) (hR : ReachedLaw A L w)
    (h : (reachedOf L).2 = false ∨ (freeOf L).2 = false ∨ (reachedOf L).1 ≠ L.ar.live ∨ (freeOf L).1.length + (reachedOf L).1.length ≠ L.c.n) (hrl : (reachedOf L).1.length ≤ 100000) (hfl : (freeOf L).1.length ≤ 100000) :
    Calls Try.prog 7 #[.pointer (some ⟨A.l, 0, none⟩)] w fun e w' => e = .returned (.bool (cleanOf L)) ∧ Kp (fun _ => False) w w' := by
  rw [clean_first L h]
  unfold ReachedLaw at hR
  have hF : ∀ w1, Kp (fun _ => False) w w1 → Calls Try.prog 17 #[.pointer (some ⟨A.l, 0, none⟩)] w1 fun e w' => FreeOk w1 w' (freeOf L) e := fun w1 hk => settleFree A L w1 (hL.keep0 hk)
  have hV : ∀ w1, Kp (fun _ => False) w w1 → Calls Try.prog 19 #[.pointer (some ⟨A.a, 0, none⟩)] w1 fun e w' => ∃ v, e = .returned v ∧ w'.ownsRow w1.heap.size 2 1 v L.ar.live.length (ints L.ar.live) ∧ Kp (fun _ => False) w1 w' :=
    fun w1 hk => live_any A.a A.s L.c.first L.ar w1 (hL.keep0 hk).a
  have hlv : L.ar.live.length ≤ 1000 := by
    have h1 := liveTo_le L.ar L.ar.slots.length
    have h2 : liveTo L.ar L.ar.slots.length = L.ar.live := by simp [liveTo, Ar.live]
    rw [h2] at h1
    exact Nat.le_trans h1 hL.a.len
  have hc : ∀ w1, Kp (fun _ => False) w w1 → w1.cell? ⟨A.l, 1, none⟩ = some (.pointer (some ⟨A.a, 0, none⟩)) ∧ w1.cell? ⟨A.l, 2, none⟩ = some (.int .i64 L.c.n) := fun w1 hk =>
    ⟨((hL.l.keep hk (fun e => e)).cell 1).trans rfl, ((hL.l.keep hk (fun e => e)).cell 2).trans rfl⟩
  have hnn := hL.n_le
  generalize reachedOf L = rx at *
  generalize freeOf L = fx at *
  obtain ⟨rl, rb⟩ := rx
  obtain ⟨fl, fb⟩ := fx
  simp only at h hrl hfl hR
  generalize L.ar.live = lv at *
  have HR := Lib.hid hR
  have HF := Lib.hid hF
  have HV := Lib.hid hV
  have HC := Lib.hid hc
  have HH := Lib.hid h
  clear hR hF hV hc hL h
  go_enter Try.func7, Try.ntmps7
  go_wp2_with fail
  ((with_reducible refine HR.out.mono ?_))
  rintro r w1 ⟨v1, rfl, hv1, hn1, hk1⟩
  obtain ⟨rA, rc, rfl⟩ := own_form hv1
  go_wp2_with fail
  ((with_reducible refine (HF.out w1 hk1).mono ?_))
  rintro r w2 ⟨v2, rfl, hv2, hn2, hk2⟩
  obtain ⟨fA, fc, rfl⟩ := own_form hv2
  have hk := hk1.trans' hk2
  have c1 := (HC.out w2 hk).1
  have c2 := (HC.out w2 hk).2
  have hr2 : Rd w2 1 rA rl.length (ints rl) := Rd.of_own (own_keep hv1 hk2 (off_false _))
  have HK := Lib.hid hk
  have HR2 := Lib.hid hr2
  clear hv1 hn1 hv2 hn2 hk1 hk2 hk hr2
  have hfin : ∀ w3, Kp (fun _ => False) w2 w3 → Kp (fun _ => False) w w3 := fun w3 h3 => HK.out.trans' h3
  have HFIN := Lib.hid hfin
  clear hfin
  cases rb with
  | false =>
    go_wp2
    go_ret
    exact ⟨rfl, HK.out⟩
  | true =>
    cases fb with
    | false =>
      go_wp2
      go_ret
      exact ⟨rfl, HK.out⟩
    | true =>
      go_wp2_with fail
      ((with_reducible refine (HV.out w2 HK.out).mono ?_))
      rintro r w3 ⟨v3, rfl, hv3, hk3⟩
      obtain ⟨lA, lc, rfl⟩ := own_form hv3
      have heq := equal_ints rA lA rl.length lv.length rc lc rl lv w3 (HR2.out.keep (len := rl.length) (cap := rc) hk3 (off_false _)) (Rd.of_own hv3) (by omega) (by omega)
      have HEQ := Lib.hid heq
      have HK3 := Lib.hid hk3
      clear heq hv3 hk3 c1 c2
      go_wp2_with fail
      ((with_reducible refine HEQ.out.mono ?_))
      rintro r w4 ⟨rfl, q, rfl⟩
      have c2 : (w3.drewN q).cell? ⟨A.l, 2, none⟩ = some (.int .i64 L.c.n) := (HC.out _ ((HFIN.out _ HK3.out).drewN q)).2
      have hdone : Kp (fun _ => False) w (w3.drewN q) := (HFIN.out _ HK3.out).drewN q
      have HD := Lib.hid hdone
      clear hdone
      by_cases he : rl = lv
      · have hne : ¬ ((fl.length : Int) + (rl.length : Int) = (L.c.n : Int)) := by
          have := HH.out
          simp [he] at this
          subst he
          omega
        have hd : decide (rl = lv) = true := decide_eq_true he
        rw [hd]
        clear he hd
        go_wp2
        go_ret
        exact ⟨rfl, HD.out⟩
      · have hd : decide (rl = lv) = false := decide_eq_false he
        rw [hd]
        clear he hd
        go_wp2
        go_ret
        exact ⟨rfl, HD.out⟩

set_option maxHeartbeats 4000000 in
theorem clean_yes (A : Adr) (L : LandSt) (w : World) (hL : LandIs w A L) (hR : ReachedLaw A L w)
    (h : ¬ ((reachedOf L).2 = false ∨ (freeOf L).2 = false ∨ (reachedOf L).1 ≠ L.ar.live ∨ (freeOf L).1.length + (reachedOf L).1.length ≠ L.c.n))
    (hr64 : ∀ k, I64 ((reachedOf L).1.getD k 0)) (hf64 : ∀ k, I64 ((freeOf L).1.getD k 0)) :
    Calls Try.prog 7 #[.pointer (some ⟨A.l, 0, none⟩)] w fun e w' => e = .returned (.bool (cleanOf L)) ∧ Kp (fun _ => False) w w' := by
  have hcl := clean_then L h
  unfold ReachedLaw at hR
  have hF : ∀ w1, Kp (fun _ => False) w w1 → Calls Try.prog 17 #[.pointer (some ⟨A.l, 0, none⟩)] w1 fun e w' => FreeOk w1 w' (freeOf L) e := fun w1 hk => settleFree A L w1 (hL.keep0 hk)
  have hV : ∀ w1, Kp (fun _ => False) w w1 → Calls Try.prog 19 #[.pointer (some ⟨A.a, 0, none⟩)] w1 fun e w' => ∃ v, e = .returned v ∧ w'.ownsRow w1.heap.size 2 1 v L.ar.live.length (ints L.ar.live) ∧ Kp (fun _ => False) w1 w' :=
    fun w1 hk => live_any A.a A.s L.c.first L.ar w1 (hL.keep0 hk).a
  have hCell : ∀ i w1, Kp (fun _ => False) w w1 → Calls Try.prog 21 #[.pointer (some ⟨A.l, 0, none⟩), .int .i64 i] w1 (fun e w' => e = .returned (.int .i64 (cellVal L.mm i)) ∧ Kp (fun _ => False) w1 w') :=
    fun i w1 hk => settleCell A L i w1 (hL.keep0 hk)
  have hc : ∀ w1, Kp (fun _ => False) w w1 → w1.cell? ⟨A.l, 1, none⟩ = some (.pointer (some ⟨A.a, 0, none⟩)) ∧ w1.cell? ⟨A.l, 2, none⟩ = some (.int .i64 L.c.n) := fun w1 hk =>
    ⟨((hL.l.keep hk (fun e => e)).cell 1).trans rfl, ((hL.l.keep hk (fun e => e)).cell 2).trans rfl⟩
  have hnn := hL.n_le
  generalize reachedOf L = rx at *
  generalize freeOf L = fx at *
  obtain ⟨rl, rb⟩ := rx
  obtain ⟨fl, fb⟩ := fx
  simp only at h hR hcl hr64 hf64
  have hrb : rb = true := by cases rb <;> simp_all
  have hfb : fb = true := by cases fb <;> simp_all
  subst hrb hfb
  have hlv : L.ar.live = rl := by
    rcases Classical.em (rl = L.ar.live) with e | e
    · exact e.symm
    · exact absurd (.inr (.inr (.inl e))) h
  have hsum : fl.length + rl.length = L.c.n := by
    rcases Classical.em (fl.length + rl.length = L.c.n) with e | e
    · exact e
    · exact absurd (.inr (.inr (.inr e))) h
  rw [hlv] at hV
  have HR := Lib.hid hR
  have HF := Lib.hid hF
  have HV := Lib.hid hV
  have HC := Lib.hid hc
  have HCE := Lib.hid hCell
  have HCL := Lib.hid hcl
  have HSUM := Lib.hid hsum
  have HR64 := Lib.hid hr64
  have HF64 := Lib.hid hf64
  have hrl : rl.length ≤ 1000 := by omega
  have hfl : fl.length ≤ 1000 := by omega
  clear hR hF hV hc hL h hCell hcl hlv hsum hr64 hf64
  go_enter Try.func7, Try.ntmps7
  go_wp2_with fail
  ((with_reducible refine HR.out.mono ?_))
  rintro r w1 ⟨v1, rfl, hv1, hn1, hk1⟩
  obtain ⟨rA, rc, rfl⟩ := own_form hv1
  go_wp2_with fail
  ((with_reducible refine (HF.out w1 hk1).mono ?_))
  rintro r w2 ⟨v2, rfl, hv2, hn2, hk2⟩
  obtain ⟨fA, fc, rfl⟩ := own_form hv2
  have hk := hk1.trans' hk2
  have c1 := (HC.out w2 hk).1
  have hr2 : Rd w2 1 rA rl.length (ints rl) := Rd.of_own (own_keep hv1 hk2 (off_false _))
  have hf2 : Rd w2 1 fA fl.length (ints fl) := Rd.of_own hv2
  have HK := Lib.hid hk
  have HR2 := Lib.hid hr2
  have HF2 := Lib.hid hf2
  clear hv1 hn1 hv2 hn2 hk1 hk2 hk hr2 hf2
  go_wp2_with fail
  ((with_reducible refine (HV.out w2 HK.out).mono ?_))
  rintro r w3 ⟨v3, rfl, hv3, hk3⟩
  obtain ⟨lA, lc, rfl⟩ := own_form hv3
  have heq := equal_ints rA lA rl.length rl.length rc lc rl rl w3 (HR2.out.keep (len := rl.length) (cap := rc) hk3 (off_false _)) (Rd.of_own hv3) (by omega) (by omega)
  have hdt : decide (rl = rl) = true := decide_eq_true rfl
  rw [hdt] at heq
  have HEQ := Lib.hid heq
  have HK3 := Lib.hid hk3
  clear heq hv3 hk3 c1 hdt
  go_wp2_with fail
  ((with_reducible refine HEQ.out.mono ?_))
  rintro r w4 ⟨rfl, q, rfl⟩
  have hd4 : Kp (fun _ => False) w (w3.drewN q) := (HK.out.trans' HK3.out).drewN q
  have c2 : (w3.drewN q).cell? ⟨A.l, 2, none⟩ = some (.int .i64 L.c.n) := (HC.out _ hd4).2
  have hr4 : Rd (w3.drewN q) 1 rA rl.length (ints rl) := HR2.out.keep (len := rl.length) (cap := rc) (HK3.out.drewN q) (off_false _)
  have hf4 : Rd (w3.drewN q) 1 fA fl.length (ints fl) := HF2.out.keep (len := fl.length) (cap := fc) (HK3.out.drewN q) (off_false _)
  generalize w3.drewN q = w4 at hd4 c2 hr4 hf4 ⊢
  have hs : (fl.length : Int) + (rl.length : Int) = (L.c.n : Int) := by have := HSUM.out; omega
  have hmm := @run_makeMap Try.prog
  have HD4 := Lib.hid hd4
  have HR4 := Lib.hid hr4
  have HF4 := Lib.hid hf4
  clear hd4 hr4 hf4 HR2 HF2
  have hm0 := World.ownsMap_made (H := Unit) w4 Try.prog 3 (plainElem Try.prog 3)
  have HM0 := Lib.hid hm0
  clear hm0
  go_wp2
  clear hmm
  go_loopw [53] (fun i wr => ∃ k : Nat, k ≤ rl.length ∧ i = .int .i64 k ∧ ∃ D : DataW Unit, wr.ownsMap Try.prog 3 (plainElem Try.prog 3) w4.heap.size k D ∧
      Hid (Counts D ((rl.take k).map slotOf)) ∧ Hid (Kp (fun _ => False) w4 wr)) (fun i _ => rl.length - (intOf i).toNat)
  case atStart => exact ⟨0, Nat.zero_le _, rfl, .map [], HM0.out, Lib.hid counts_nil, Lib.hid ((Kp.refl _ _).alloc _)⟩
  case round =>
    obtain ⟨k, hk, rfl, D, hown, hcnt, hkp⟩ := hrel
    by_cases hlt : k < rl.length
    · obtain ⟨ad, u, rfl, hu, hcu⟩ := (HR4.out.keep (len := rl.length) (cap := rc) hkp.out (off_false _)).at_ hlt
      simp only [getElem?_ints, List.getElem?_eq_getElem hlt, Option.map_some, Option.some.injEq] at hu
      subst hu
      have h64 : I64 rl[k] := by have := HR64.out k; simpa [hlt] using this
      have hcnt2 : ∀ d, Counts (D.put (.int .i64 (slotOf rl[k])) d) ((rl.take (k + 1)).map slotOf) := fun d => by
        rw [List.take_succ_eq_append_getElem hlt, List.map_append]
        exact hcnt.out.put _ d
      generalize rl[k] = x at hcu h64 hcnt2
      have hslot := fun w1 => slot_any x h64 w1
      have hwf : (Lit.int .i64 (slotOf x)).wf = true := int_wf (by have := slotOf_range x; unfold I64; omega)
      have hq : k < maxLen := by unfold maxLen; omega
      generalize slotOf x = y at hcnt2 hslot hwf
      have HS := Lib.hid hslot
      have HWF := Lib.hid hwf
      have HQ := Lib.hid hq
      have HO := Lib.hid hown
      have HC2 := Lib.hid hcnt2
      clear hslot hwf hq hown hcnt2 hcnt h64
      go_wp2_with (first
        | (go_at_call 20; refine (HS.out _).mono ?_; rintro e w' ⟨rfl, rfl⟩)
        | (at_lookup; refine wpList_lookup_own_int _ rfl _ _ 56 rfl 3 3 .i64 (int_keyed Try.underlying3) Try.underlying56 Try.underlying3 (zeroInt _) w4.heap.size k D rfl HO.out _ (.int .i64 y) rfl (keyOf_int_mk Try.underlying3 HWF.out) ?_; intro c hat hwc)
        | (at_mapUpdate; refine wpList_mapUpdate_own _ rfl _ _ _ 56 rfl 3 3 (int_keyed Try.underlying3) Try.underlying56 (plainElem Try.prog 3) w4.heap.size k D rfl HO.out HQ.out _ _ (.int .i64 y) rfl rfl (keyOf_int_mk Try.underlying3 HWF.out) _ [] (plainElem_int Try.underlying3 (wrap64_wf _)) ?_; intro w6 hown6 hgrow6))
      have hk6 : Kp (fun _ => False) w4 w6 := hkp.out.grown hgrow6 fun g e => by injection e with e; exact .inr (by omega)
      have HK6 := Lib.hid hk6
      have HO6 := Lib.hid hown6
      clear hk6 hown6 hgrow6 HO
      go_wp2
      go_roundw
      case rel => exact ⟨k + 1, by omega, by go_num, _, HO6.out, Lib.hid (HC2.out _), HK6⟩
      case measure => simp [intOf]; omega
    · obtain rfl : k = rl.length := by omega
      have hcnt0 : Counts D (rl.map slotOf) := by have := hcnt.out; rwa [List.take_length] at this
      have HCNT0 := Lib.hid hcnt0
      have HO0 := Lib.hid hown
      obtain ⟨wo, hwo⟩ : ∃ wo : World, wo = wr := ⟨_, rfl⟩
      have HKP0 := Lib.hid hkp.out
      clear hcnt hcnt0 hown hkp hwo
      go_wp2
      go_loopw [65] (fun i wr => ∃ k : Nat, k ≤ fl.length ∧ i = .int .i64 k ∧ ∃ D : DataW Unit, wr.ownsMap Try.prog 3 (plainElem Try.prog 3) w4.heap.size (rl.length + k) D ∧
          Hid (Counts D (rl.map slotOf ++ fl.take k)) ∧ Hid (Kp (fun _ => False) w4 wr)) (fun i _ => fl.length - (intOf i).toNat)
      case atStart => exact ⟨0, Nat.zero_le _, rfl, D, HO0.out, by simpa using HCNT0, HKP0⟩
      case round =>
        obtain ⟨k, hk, rfl, D, hown, hcnt, hkp⟩ := hrel
        by_cases hlt : k < fl.length
        · obtain ⟨ad, u, rfl, hu, hcu⟩ := (HF4.out.keep (len := fl.length) (cap := fc) hkp.out (off_false _)).at_ hlt
          simp only [getElem?_ints, List.getElem?_eq_getElem hlt, Option.map_some, Option.some.injEq] at hu
          subst hu
          have h64 : I64 fl[k] := by have := HF64.out k; simpa [hlt] using this
          have hcnt2 : ∀ d, Counts (D.put (.int .i64 fl[k]) d) (rl.map slotOf ++ fl.take (k + 1)) := fun d => by
            rw [List.take_succ_eq_append_getElem hlt, ← List.append_assoc]
            exact hcnt.out.put _ d
          generalize fl[k] = y at hcu h64 hcnt2
          have hwf : (Lit.int .i64 y).wf = true := int_wf h64
          have hq : rl.length + k < maxLen := by unfold maxLen; omega
          have HWF := Lib.hid hwf
          have HQ := Lib.hid hq
          have HO := Lib.hid hown
          have HC2 := Lib.hid hcnt2
          clear hwf hq hown hcnt2 hcnt h64
          go_wp2_with (first
            | (at_lookup; refine wpList_lookup_own_int _ rfl _ _ 56 rfl 3 3 .i64 (int_keyed Try.underlying3) Try.underlying56 Try.underlying3 (zeroInt _) w4.heap.size (rl.length + k) D rfl HO.out _ (.int .i64 y) rfl (keyOf_int_mk Try.underlying3 HWF.out) ?_; intro c hat hwc)
            | (at_mapUpdate; refine wpList_mapUpdate_own _ rfl _ _ _ 56 rfl 3 3 (int_keyed Try.underlying3) Try.underlying56 (plainElem Try.prog 3) w4.heap.size (rl.length + k) D rfl HO.out HQ.out _ _ (.int .i64 y) rfl rfl (keyOf_int_mk Try.underlying3 HWF.out) _ [] (plainElem_int Try.underlying3 (wrap64_wf _)) ?_; intro w6 hown6 hgrow6))
          have hk6 : Kp (fun _ => False) w4 w6 := hkp.out.grown hgrow6 fun g e => by injection e with e; exact .inr (by omega)
          have HK6 := Lib.hid hk6
          have HO6 := Lib.hid hown6
          clear hk6 hown6 hgrow6 HO
          go_wp2
          go_roundw
          case rel => exact ⟨k + 1, by omega, by go_num, _, HO6.out, Lib.hid (HC2.out _), HK6⟩
          case measure => simp [intOf]; omega
        · obtain rfl : k = fl.length := by omega
          have hsz : Maps.size D = ((rl.map slotOf) ++ fl).eraseDups.length := by
            have := hcnt.out.2.2
            rwa [List.take_length] at this
          have hkw : Kp (fun _ => False) w wr := HD4.out.trans' hkp.out
          have c2 : wr.cell? ⟨A.l, 2, none⟩ = some (.int .i64 L.c.n) := (HC.out _ hkw).2
          generalize hdl : ((rl.map slotOf) ++ fl).eraseDups.length = dl at hsz
          have hcl := HCL.out
          simp only [hdl] at hcl
          have HSZ := Lib.hid hsz
          have HKW := Lib.hid hkw
          have HO := Lib.hid hown
          have HCL2 := Lib.hid hcl
          clear hcnt hsz hkw hown hcl hkp
          have hlen : ∀ ty n, (Builtin.len_ #[56] ty #[.map (some w4.heap.size)]).run Try.prog (wr.drewN n) = .ok (.int .i64 (dl : Int)) (wr.drewN n) := fun ty n => by
            have h0 : (wr.drewN n).ownsMap Try.prog 3 (plainElem Try.prog 3) w4.heap.size (rl.length + fl.length) D := HO.out
            have := h0.len Try.underlying56 ty
            rw [HSZ.out] at this
            exact this
          by_cases h1 : dl = L.c.n
          · have hb1 : ((dl : Int) == (L.c.n : Int)) = true := by simp [h1]
            have hlen1 : ∀ ty, (Builtin.len_ #[56] ty #[.map (some w4.heap.size)]).run Try.prog wr.drew = .ok (.int .i64 (dl : Int)) wr.drew := fun ty => hlen ty 1
            have hkd : Kp (fun _ => False) w wr.drew := HKW.out.drew
            have hfin := HCL2.out
            rw [show decide (dl = L.c.n) = true from decide_eq_true h1] at hfin
            simp only [Bool.true_and] at hfin
            have CE : ∀ i w1, Kp (fun _ => False) w w1 → Calls Try.prog 21 #[.pointer (some ⟨A.l, 0, none⟩), .int .i64 i] w1 (fun e w' => e = .returned (.int .i64 (cellVal L.mm i)) ∧ Kp (fun _ => False) w w' ∧ w'.cell? ⟨A.l, 2, none⟩ = some (.int .i64 L.c.n)) :=
              fun i w1 hk => (HCE.out i w1 hk).mono fun e w' ⟨h1, h2⟩ => ⟨h1, hk.trans' h2, (HC.out _ (hk.trans' h2)).2⟩
            have HFIN := Lib.hid hfin
            have HCEE := Lib.hid CE
            clear hfin h1 hlen HO CE
            by_cases h2 : cellVal L.mm 22 = cellVal L.mm 23
            · have hb2 : (cellVal L.mm 22 == cellVal L.mm 23) = true := by simp [h2]
              have hfin := HFIN.out
              rw [show decide (cellVal L.mm 22 = cellVal L.mm 23) = true from decide_eq_true h2] at hfin
              simp only [Bool.true_and] at hfin
              have HFIN2 := Lib.hid hfin
              clear hfin h2
              go_wp2
              first
                | go_region_law (first | (go_simp; go_at_call 21; refine (HCEE.out _ _ (by assumption)).mono ?_; rintro e w' ⟨rfl, hk', hc'⟩))
                | fail
              all_goals
                go_wp2
                go_ret
                exact ⟨by rw [HFIN2.out]; exact ret_bool (beq_dec _ _), by assumption⟩
            · have hb2 : (cellVal L.mm 22 == cellVal L.mm 23) = false := by simp [h2]
              have hb3 : decide (cellVal L.mm 22 = cellVal L.mm 23) = false := decide_eq_false h2
              have hb4 : ¬ (cellVal L.mm 22 = cellVal L.mm 23) := h2
              have hfin := HFIN.out
              rw [show decide (cellVal L.mm 22 = cellVal L.mm 23) = false from decide_eq_false h2] at hfin
              simp only [Bool.false_and] at hfin
              have HFIN2 := Lib.hid hfin
              clear hfin h2
              go_wp2
              first
                | go_region_law (first | (go_simp; go_at_call 21; refine (HCEE.out _ _ (by assumption)).mono ?_; rintro e w' ⟨rfl, hk', hc'⟩))
                | fail
              all_goals
                go_wp2
                go_ret
                exact ⟨by rw [HFIN2.out]; rfl, by assumption⟩
          · have hb1 : ((dl : Int) == (L.c.n : Int)) = false := by simp; omega
            have hfin := HCL2.out
            rw [show decide (dl = L.c.n) = false from decide_eq_false h1] at hfin
            simp only [Bool.false_and] at hfin
            have HFIN := Lib.hid hfin
            clear hfin h1
            go_wp2
            refine wp_region_quiet_lit (by kernel_rfl) (by kernel_rfl) ?_
            go_big_quiet_step (fail)
            refine quiet_len _ 56 rfl rfl _ _ rfl (fun wq hq ty => by obtain ⟨n, rfl⟩ := hq; exact hlen ty n) ?_
            repeat (first | go_big_quiet_step (fail) | quiet_step (fail))
            refine wpQuiet_nil ?_
            intro _ hw'
            obtain ⟨nq, hw''⟩ := hw'
            subst hw''
            go_wp2
            go_ret
            exact ⟨by rw [HFIN.out]; rfl, HKW.out.drewN _⟩
end Go.Proofs.Ytljjobdboambiaa
