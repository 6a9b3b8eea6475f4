/- settle.reach. -/
import Derived.Test.YtljjobdboambiaaSettleA
namespace Go.Proofs.Ytljjobdboambiaa
open Go.RowKit Samara

def landF (A : Adr) (b : Nat) : Prop := b = A.l ∨ b = A.m ∨ b = A.c ∨ b = A.a ∨ b = A.s
/-- A slice that isn't one of the land's. -/
def Apart (A : Adr) (v : Value) : Prop := ∀ g, v.ownBlock = some g → ¬ landF A g
theorem LandIs.keepV {w w' : World} {A : Adr} {L : LandSt} {v : Value} (h : LandIs w A L) (hk : Kp (fun b => v.ownBlock = some b) w w') (ha : Apart A v) : LandIs w' A L :=
  h.keep hk (fun e => ha _ e (.inl rfl)) (fun e => ha _ e (.inr (.inl rfl))) (fun e => ha _ e (.inr (.inr (.inl rfl)))) (fun e => ha _ e (.inr (.inr (.inr (.inl rfl))))) (fun e => ha _ e (.inr (.inr (.inr (.inr rfl)))))
theorem LandIs.lt {w : World} {A : Adr} {L : LandSt} (h : LandIs w A L) {b : Nat} (hb : landF A b) : b < w.heap.size := by
  rcases hb with rfl | rfl | rfl | rfl | rfl
  · exact h.l.lt
  · exact h.m.m.lt
  · exact h.m.c.lt
  · exact h.a.a.lt
  · exact h.a.s.lt

theorem reachFrom_len (l : LandSt) (n : Nat) (h : Int) (out : List Int) (hr : (reachFrom l n h out).2 = true) : (reachFrom l n h out).1.length ≤ l.c.n := by
  cases n with
  | zero => simp [reachFrom] at hr
  | succ n =>
    unfold reachFrom at hr ⊢
    split
    · rename_i h1; rw [if_pos h1] at hr; cases hr
    · rename_i h1
      rw [if_neg h1] at hr
      simp only at hr ⊢
      split
      · rename_i h2; rw [if_pos h2] at hr; simpa using hr
      · rename_i h2; rw [if_neg h2] at hr; cases hr

theorem unpack_slots (xs : List Int) (h64 : ∀ k, I64 (xs.getD k 0)) : (∀ k, I64 ((unpackB xs).1.slots.getD k 0)) ∧ (unpackB xs).1.slots.length ≤ 8 := by
  have hz : (∀ k, I64 (([] : List Int).getD k 0)) ∧ ([] : List Int).length ≤ 8 := ⟨fun k => by simp [I64], by simp⟩
  by_cases h : xs.length = 28 ∧ 16 ≤ xs.getD 0 0 ∧ xs.getD 0 0 ≤ 130
  · rw [unpack_yes xs h _ rfl]
    split
    · refine ⟨fun k => ?_, ?_⟩
      · simp only [unpackN, List.getD_eq_getElem?_getD, List.getElem?_take, List.getElem?_drop]
        split
        · simpa using h64 _
        · exact ⟨by decide, by decide⟩
      · simp only [unpackN, List.length_take]; omega
    · exact hz
  · rw [unpack_no xs h]
    exact hz

/-- A result that is a slice and a bool, with what it reads as. -/
def SlOk (w w' : World) (v : Value) (res : List Int × Bool) (e : Ending) : Prop :=
  ∃ v', e = .returned (.tuple #[v', .bool res.2]) ∧ w'.ownsRow 0 2 1 v' res.1.length (ints res.1) ∧ (∀ g, v'.ownBlock = some g → v.ownBlock = some g ∨ w.heap.size ≤ g) ∧ Kp (fun b => v.ownBlock = some b) w w'

theorem words_ok {L : LandSt} (h : Mm.Ok L.mm) (hd : Int) : ∀ k, I64 ((wordsB L hd).getD k 0) := by
  intro k
  unfold wordsB nodeWords
  have h0 : I64 0 := ⟨by decide, by decide⟩
  split
  · simpa using h0
  · simp only [List.getD_eq_getElem?_getD, List.getElem?_set]
    have := lookAt_ok h (cellOf L.c hd 0) 28 k
    simp only [List.getD_eq_getElem?_getD] at this
    repeat' split
    all_goals first | exact h0 | exact this | simpa using h0

set_option maxHeartbeats 1000000 in
theorem reach_fail (A : Adr) (L : LandSt) (h : Int) (height : Nat) (hh8 : height ≤ 8) (v : Value) (out : List Int) (w : World) (hL : LandIs w A L) (hh : I64 h) (hown : w.ownsRow 0 2 1 v out.length (ints out))
    (hf : (unpackB (wordsB L h)).2 = false ∨ height = 0 ∨ L.c.n ≤ out.length) :
    Calls Try.prog 23 #[.pointer (some ⟨A.l, 0, none⟩), .int .i64 h, .int .i64 height, v] w fun e w' => SlOk w w' v ([], false) e := by
  have hw := settleWords A L h hh w hL
  have hun : ∀ v' w1, w1.ownsRow 0 2 1 v' (wordsB L h).length (ints (wordsB L h)) → Calls Try.prog 30 #[v'] w1 fun r w' => Unpacked w1 w' (wordsB L h) r := fun v' w1 ho =>
    unpack_any v' _ _ w1 ho (by unfold wordsB nodeWords; split <;> simp <;> omega) (words_ok hL.ok h)
  have hn := hL.n_le
  obtain ⟨B, d, rfl⟩ := own_form hown
  have hl2 : ∀ w1, Kp (fun _ => False) w w1 → w1.cell? ⟨A.l, 2, none⟩ = some (.int .i64 L.c.n) := fun w1 h1 => ((hL.l.keep h1 (fun e => e)).cell 2).trans rfl
  generalize (wordsB L h) = ws at *
  have HW := Lib.hid hw
  have HU := Lib.hid hun
  have H2 := Lib.hid hl2
  clear hw hun hl2 hown hL
  go_enter Try.func23, Try.ntmps23
  go_wp2_with fail
  ((with_reducible refine HW.out.mono ?_))
  rintro r w1 ⟨v1, rfl, hv1, hn1, hk1⟩
  go_wp2_with fail
  ((with_reducible refine (HU.out v1 w1 hv1).mono ?_))
  rintro r w2 ⟨inner, lo, e, s, g, rfl, hnode, he, hs, hg, ne, ns, ng, hk2⟩
  have hk := hk1.trans' hk2
  have hc2 : ∀ o, (w2.alloc o).cell? ⟨A.l, 2, none⟩ = some (.int .i64 L.c.n) := fun o => H2.out _ (hk.alloc o)
  have hlt : ∀ o, Kp (fun _ => False) w (w2.alloc o) := fun o => hk.alloc o
  have HK := Lib.hid hlt
  clear hlt he hs hg ne ns ng hk1 hk2 hk hv1 hn1 hnode
  cases hb : (unpackB ws).2 with
  | false =>
    have HB := Lib.hid hb
    clear hb hf
    unfold nodeV Sl.v
    go_wp2
    go_ret2
    exact ⟨_, rfl, World.ownsRow_nil _ _ _ _, fun g hg => by simp [Value.ownBlock] at hg, (HK.out _).mono (fun _ _ e => e.elim)⟩
  | true =>
    have hf' : height = 0 ∨ L.c.n ≤ out.length := by
      rcases hf with h1 | h1
      · rw [hb] at h1; cases h1
      · exact h1
    have HB := Lib.hid hb
    clear hb hf
    unfold nodeV Sl.v
    by_cases h0 : height = 0
    · subst h0
      go_wp2
      go_ret2
      exact ⟨_, rfl, World.ownsRow_nil _ _ _ _, fun g hg => by simp [Value.ownBlock] at hg, (HK.out _).mono (fun _ _ e => e.elim)⟩
    · have h1 : (L.c.n : Int) ≤ (out.length : Int) := by omega
      have h2 : ¬ ((height : Int) = 0) := by omega
      clear hf'
      go_wp2
      go_ret2
      exact ⟨_, rfl, World.ownsRow_nil _ _ _ _, fun g hg => by simp [Value.ownBlock] at hg, (HK.out _).mono (fun _ _ e => e.elim)⟩

/-- The law of one height, for the heights above it. -/
def ReachLaw (A : Adr) (L : LandSt) (height : Nat) : Prop :=
  ∀ (h : Int) (v : Value) (out : List Int) (w : World), LandIs w A L → I64 h → w.ownsRow 0 2 1 v out.length (ints out) → Apart A v → out.length ≤ 100000 →
    Calls Try.prog 23 #[.pointer (some ⟨A.l, 0, none⟩), .int .i64 h, .int .i64 height, v] w fun e w' => SlOk w w' v (reachFrom L height h out) e

theorem reachLoop_cons (inner : Bool) (sub : Int → List Int → List Int × Bool) (s : Int) (ss out : List Int) : reachLoop inner sub (s :: ss) out =
    if inner then (if (sub s out).2 then reachLoop inner sub ss (sub s out).1 else ([], false)) else reachLoop inner sub ss (if s ≠ 0 then out ++ [s] else out) := rfl

set_option maxHeartbeats 4000000 in
theorem reach_go (A : Adr) (L : LandSt) (height : Nat) (hh8 : height < 8) (ih : ReachLaw A L height) (h : Int) (v : Value) (out : List Int) (w : World) (hL : LandIs w A L) (hh : I64 h)
    (hown : w.ownsRow 0 2 1 v out.length (ints out)) (hap : Apart A v) (hok : (unpackB (wordsB L h)).2 = true) (hlen : out.length < L.c.n) :
    Calls Try.prog 23 #[.pointer (some ⟨A.l, 0, none⟩), .int .i64 h, .int .i64 ((height : Int) + 1), v] w fun e w' => SlOk w w' v (reachFrom L (height + 1) h out) e := by
  have hw := settleWords A L h hh w hL
  have hun : ∀ v' w1, w1.ownsRow 0 2 1 v' (wordsB L h).length (ints (wordsB L h)) → Calls Try.prog 30 #[v'] w1 fun r w' => Unpacked w1 w' (wordsB L h) r := fun v' w1 ho =>
    unpack_any v' _ _ w1 ho (by unfold wordsB nodeWords; split <;> simp <;> omega) (words_ok hL.ok h)
  have hn := hL.n_le
  have hres : reachFrom L (height + 1) h out = (let r := reachLoop (unpackB (wordsB L h)).1.inner (reachFrom L height) (unpackB (wordsB L h)).1.slots (out ++ [h]); if r.2 then (r.1, decide (r.1.length ≤ L.c.n)) else ([], false)) := by
    show (if (unpackB (wordsB L h)).2 = false ∨ L.c.n ≤ out.length then _ else _) = _
    rw [if_neg (by rw [hok]; simp; omega)]
    rfl
  have hso := unpack_slots (wordsB L h) (words_ok hL.ok h)
  obtain ⟨B, d, rfl⟩ := own_form hown
  have hl2 : ∀ w1, Kp (fun _ => False) w w1 → w1.cell? ⟨A.l, 2, none⟩ = some (.int .i64 L.c.n) := fun w1 h1 => ((hL.l.keep h1 (fun e => e)).cell 2).trans rfl
  generalize (wordsB L h) = ws at *
  obtain ⟨i0, hi, hz0, hz1, hz2⟩ := info_parts infoInt
  have HW := Lib.hid hw
  have HU := Lib.hid hun
  have H2 := Lib.hid hl2
  have HOK := Lib.hid hok
  have HRES := Lib.hid hres
  have HSO := Lib.hid hso
  have HOWN := Lib.hid hown
  have HL := Lib.hid hL
  have HAP := Lib.hid hap
  have IH := Lib.hid ih
  have hvlt : ∀ g, (Value.slice B out.length d).ownBlock = some g → g < w.heap.size := fun g hg => (hown.lt g hg).2
  have HVLT := Lib.hid hvlt
  clear hw hun hl2 hown hL hok hres hso hap ih hvlt
  go_enter Try.func23, Try.ntmps23
  go_wp2_with fail
  ((with_reducible refine HW.out.mono ?_))
  rintro r w1 ⟨v1, rfl, hv1, hn1, hk1⟩
  go_wp2_with fail
  ((with_reducible refine (HU.out v1 w1 hv1).mono ?_))
  rintro r w2 ⟨inner, lo, ⟨eA, ec, ex⟩, ⟨sA, sc, sx⟩, ⟨gA, gc, gx⟩, rfl, hnode, he, hs, hg, ne, ns, ng, hk2⟩
  rw [HOK.out]
  have hk := hk1.trans' hk2
  simp only [nodeV, Sl.v]
  simp only [Sl.Is] at hs
  simp only [Sl.v] at ns
  generalize hN : (Obj.cells #[.bool inner, .int .i64 lo, .slice eA ex.length ec, .slice sA sx.length sc, .slice gA gx.length gc] 40) = nodeObj
  have hB := (Blk.new w2 40 #[.bool inner, .int .i64 lo, .slice eA ex.length ec, .slice sA sx.length sc, .slice gA gx.length gc]).alloc (.cells #[.int .i64 h] 2)
  have hK1 := hk.alloc nodeObj
  have hK := hK1.alloc (.cells #[.int .i64 h] 2)
  rw [hN] at hB
  have hS : Rd ((w2.alloc nodeObj).alloc (.cells #[.int .i64 h] 2)) 1 sA sx.length (ints sx) := hs.keep (len := sx.length) (cap := sc) (((Kp.refl (fun _ => False) w2).alloc _).alloc _) (off_false _)
  have hslt : ∀ b, (Value.slice sA sx.length sc).ownBlock = some b → w.heap.size ≤ b := fun b hb => Nat.le_trans hk1.size (ns b hb)
  have hslt2 : ∀ (j : Nat) b, j < sx.length → sA = some b → b.block < w2.heap.size := fun j b hj hb => by
    obtain ⟨ad, u, e1, _, e3⟩ := hs.at_ hj
    rw [hb] at e1
    injection e1 with e1
    have := World.block_lt_of_cell? w2 _ e3
    rw [add_block, ← e1] at this
    exact this
  have hinner : (unpackB ws).1.inner = inner := by rw [← hnode]; rfl
  have hslots : (unpackB ws).1.slots = sx := by rw [← hnode]; rfl
  have hso2 := HSO.out
  rw [hslots] at hso2
  have hres2 := HRES.out
  rw [hinner, hslots] at hres2
  have hc2 : (w2.alloc nodeObj).cell? ⟨A.l, 2, none⟩ = some (.int .i64 L.c.n) := H2.out _ hK1
  have hszw : w.heap.size ≤ w2.heap.size := hk.size
  have hv2 : ((w2.alloc nodeObj).alloc (.cells #[.int .i64 h] 2)).ownsRow 0 2 1 (.slice B out.length d) out.length (ints out) := own_keep HOWN.out hK (off_false _)
  have hw1s : ((w2.alloc nodeObj).alloc (.cells #[.int .i64 h] 2)).heap.size = w2.heap.size + 2 := by simp
  have hrd1 : Rd ((w2.alloc nodeObj).alloc (.cells #[.int .i64 h] 2)) 1 (some ⟨w2.heap.size + 1, 0, none⟩) 1 (ints [h]) := by
    refine ⟨rfl, fun _ => ⟨_, rfl, ?_⟩⟩
    intro j u hu
    match j, hu with
    | 0, hu =>
      simp only [ints, List.map_cons, List.map_nil, List.getElem?_cons_zero, Option.some.injEq] at hu
      subst hu
      simp [Addr.add]
  generalize hW1 : (w2.alloc nodeObj).alloc (.cells #[.int .i64 h] 2) = W1 at hB hK hS hv2 hw1s hrd1
  have Q1 : Hid (out.length + 1 ≤ maxLen) := Lib.hid (by unfold maxLen; omega)
  have Q2 : Hid ((out.length + 1) * 8 ≤ 140737488355328) := Lib.hid (by omega)
  have HB := Lib.hid hB
  have HK := Lib.hid hK
  have HS := Lib.hid hS
  have HSLT := Lib.hid hslt
  have HSLT2 := Lib.hid hslt2
  have HSO2 := Lib.hid hso2
  have HRES2 := Lib.hid hres2
  have HSZ := Lib.hid hszw
  have HV2 := Lib.hid hv2
  have HW1S := Lib.hid hw1s
  have HRD1 := Lib.hid hrd1
  clear hB hK hK1 hS hslt hslt2 hinner hslots hso2 hres2 hnode he hs hg ne ns ng hk1 hk2 hk hv1 hn1 HSO HRES hszw hv2 hw1s hrd1
  have hlt2 : ¬ ((L.c.n : Int) ≤ (out.length : Int)) := by omega
  have hne0 : ¬ ((height : Int) + 1 = 0) := by omega
  go_wp2_with (at_builtin; refine wpList_append_rd _ rfl (.tmp 36) (.tmp 38) 34 rfl 0 2 i0 (.int .i64 0) 1 8 Try.underlying34 hi hz0 hz1 hz2 rfl (by decide) _ _ _ rfl HV2.out _ _ _ (ints [h]) rfl HRD1.out mem_ints_one Q1.out Q2.out (Nat.zero_le _) ?_)
  intro vo w3 hown3 hgrow hblk
  clear hc2 hW1
  have hkp3 : Kp (fun b => (Value.slice B out.length d).ownBlock = some b) W1 w3 := (Kp.refl _ _).grown hgrow fun k hk => .inl hk
  have hvo3 : ∀ b, vo.ownBlock = some b → (Value.slice B out.length d).ownBlock = some b ∨ W1.heap.size ≤ b := by
    intro b hb
    rcases hblk with h1 | h1
    · exact .inl (by rw [← h1]; exact hb)
    · rw [h1] at hb; injection hb with hb; exact .inr (by omega)
  have hown3' : w3.ownsRow 0 2 1 vo (out ++ [h]).length (ints (out ++ [h])) := by
    have e1 : (out ++ [h]).length = out.length + 1 := by simp
    rw [e1]; simpa [ints] using hown3
  have hb3 := HB.out.keep hkp3 (fun e => by have := HVLT.out _ e; have := HSZ.out; omega)
  have d3 := (hb3.cell 3).trans rfl
  have HK3 := Lib.hid hkp3
  have HVO3 := Lib.hid hvo3
  have HO3 := Lib.hid hown3'
  clear hkp3 hvo3 hown3 hown3' hgrow hblk hb3
  have hs8 : sx.length ≤ 8 := HSO2.out.2
  go_wp2
  clear d3
  go_loopw [3, 43] (fun vv i wr => ∃ k : Nat, k ≤ sx.length ∧ i = .int .i64 k ∧ ∃ outs : List Int, wr.ownsRow 0 2 1 vv outs.length (ints outs) ∧ outs.length ≤ L.c.n + k ∧
      Hid (∀ b, vv.ownBlock = some b → (Value.slice B out.length d).ownBlock = some b ∨ W1.heap.size ≤ b) ∧
      Hid (reachLoop inner (reachFrom L height) sx (out ++ [h]) = reachLoop inner (reachFrom L height) (sx.drop k) outs) ∧
      Hid (Kp (fun b => (Value.slice B out.length d).ownBlock = some b) W1 wr)) (fun _ i _ => sx.length - (intOf i).toNat)
  case atStart => exact ⟨0, Nat.zero_le _, rfl, out ++ [h], HO3.out, by simp; omega, HVO3, Lib.hid rfl, HK3⟩
  case round =>
    obtain ⟨k, hk, rfl, outs, hvv, houts, hvb, hloop, hkp⟩ := hrel
    obtain ⟨vA, vc, rfl⟩ := own_form hvv
    have hLr : LandIs wr A L := HL.out.keepV ((HK.out.mono (F' := fun b => (Value.slice B out.length d).ownBlock = some b) (fun _ _ e => e.elim)).trans' hkp.out) HAP.out
    have hkw : Kp (fun b => (Value.slice B out.length d).ownBlock = some b) w wr := (HK.out.mono (fun _ _ e => e.elim)).trans' hkp.out
    by_cases hlt : k < sx.length
    · have hSr : Rd wr 1 sA sx.length (ints sx) := HS.out.keep (len := sx.length) (cap := sc) hkp.out (fun b hb e => by have := HSLT.out b hb; have := HVLT.out b e; omega)
      obtain ⟨ad, u, rfl, hu, hcu⟩ := hSr.at_ hlt
      simp only [getElem?_ints, List.getElem?_eq_getElem hlt, Option.map_some, Option.some.injEq] at hu
      subst hu
      have hdrop : sx.drop k = sx[k] :: sx.drop (k + 1) := List.drop_eq_getElem_cons hlt
      have hl2 := hloop.out
      rw [hdrop, reachLoop_cons] at hl2
      have h64 : I64 sx[k] := by have := HSO2.out.1 k; simpa [hlt] using this
      have hbr := HB.out.keep hkp.out (fun e => by have := HVLT.out _ e; have := HSZ.out; omega)
      have b0 := (hbr.cell 0).trans rfl
      generalize sx[k] = x at hcu hl2 h64
      have HL2 := Lib.hid hl2
      have HLR := Lib.hid hLr
      have HKW := Lib.hid hkw
      have HVV := Lib.hid hvv
      clear hl2 hdrop hSr hloop hbr hLr hkw hvv
      have hszW : W1.heap.size ≤ wr.heap.size := hkp.out.size
      cases inner with
      | true =>
        simp only [if_true] at HL2
        have hap2 : Apart A (.slice vA outs.length vc) := fun b hb hf => by
          rcases hvb.out b hb with h1 | h1
          · exact HAP.out b h1 hf
          · have := HL.out.lt hf; have := HK.out.size; omega
        have hcl := IH.out x (.slice vA outs.length vc) outs wr HLR.out h64 HVV.out hap2 (by omega)
        have hrl := reachFrom_len L height x outs
        generalize hrx : reachFrom L height x outs = rx at hcl hrl HL2
        obtain ⟨rl, rb⟩ := rx
        simp only [SlOk] at hcl
        have hhh : (height : Int) + 1 - 1 = (height : Int) := by omega
        have HCL := Lib.hid hcl
        have HRL := Lib.hid hrl
        have HRX := Lib.hid hrx
        have HAP2 := Lib.hid hap2
        clear hcl hrl hrx hap2
        go_wp2_with fail
        ((with_reducible refine HCL.out.mono ?_))
        rintro r w5 ⟨v5, rfl, hv5, hb5, hk5⟩
        have hkp5 : Kp (fun b => (Value.slice B out.length d).ownBlock = some b) W1 w5 := hkp.out.trans hk5 fun b hb e => by
          rcases hvb.out b e with h1 | h1
          · exact h1
          · omega
        have hvb5 : ∀ b, v5.ownBlock = some b → (Value.slice B out.length d).ownBlock = some b ∨ W1.heap.size ≤ b := by
          intro b hb
          rcases hb5 b hb with h1 | h1
          · exact hvb.out b h1
          · exact .inr (by omega)
        have HKP5 := Lib.hid hkp5
        have HVB5 := Lib.hid hvb5
        have HV5 := Lib.hid hv5
        clear hkp5 hvb5 hv5 hb5 hk5
        cases rb with
        | true =>
          have hl3 := HRL.out rfl
          simp only [if_true] at HL2
          go_wp2
          go_roundw
          case rel => exact ⟨k + 1, by omega, by go_num, rl, HV5.out, by omega, HVB5, HL2, HKP5⟩
          case measure => simp [intOf]; omega
        | false =>
          simp only [Bool.false_eq_true, if_false] at HL2
          have hfin := HRES2.out
          rw [HL2.out] at hfin
          simp only [Bool.false_eq_true, if_false] at hfin
          have HF := Lib.hid hfin
          clear hfin
          go_wp2
          go_ret2
          refine ⟨.slice none 0 0, by rw [HF.out]; rfl, by rw [HF.out]; exact World.ownsRow_nil _ _ _ _, fun g hg => by simp [Value.ownBlock] at hg, (HK.out.mono (fun _ _ e => e.elim)).trans' HKP5.out⟩
      | false =>
        simp only [Bool.false_eq_true, if_false] at HL2
        by_cases hx0 : x = 0
        · subst hx0
          simp only [ne_eq, not_true_eq_false, if_false] at HL2
          go_wp2
          go_roundw
          case rel => exact ⟨k + 1, by omega, by go_num, outs, HVV.out, by omega, hvb, HL2, hkp⟩
          case measure => simp [intOf]; omega
        · simp only [ne_eq, hx0, not_false_eq_true, if_true] at HL2
          have hv6 : (wr.alloc (.cells #[.int .i64 x] 2)).ownsRow 0 2 1 (.slice vA outs.length vc) outs.length (ints outs) := HVV.out.alloc _
          have hrd6 : Rd (wr.alloc (.cells #[.int .i64 x] 2)) 1 (some ⟨wr.heap.size, 0, none⟩) 1 (ints [x]) := by
            refine ⟨rfl, fun _ => ⟨_, rfl, ?_⟩⟩
            intro j u hu
            match j, hu with
            | 0, hu =>
              simp only [ints, List.map_cons, List.map_nil, List.getElem?_cons_zero, Option.some.injEq] at hu
              subst hu
              simp [Addr.add]
          have q1 : outs.length + 1 ≤ maxLen := by unfold maxLen; omega
          have q2 : (outs.length + 1) * 8 ≤ 140737488355328 := by omega
          have HV6 := Lib.hid hv6
          have HRD6 := Lib.hid hrd6
          have Q6 := Lib.hid q1
          have Q7 := Lib.hid q2
          clear hv6 hrd6 q1 q2
          go_wp2_with (at_builtin; refine wpList_append_rd _ rfl (.tmp 64) (.tmp 66) 34 rfl 0 2 i0 (.int .i64 0) 1 8 Try.underlying34 hi hz0 hz1 hz2 rfl (by decide) _ _ _ rfl HV6.out _ _ _ (ints [x]) rfl HRD6.out mem_ints_one Q6.out Q7.out (Nat.zero_le _) ?_)
          intro v7 w7 hown7 hgrow hblk
          have hkp7 : Kp (fun b => (Value.slice B out.length d).ownBlock = some b) W1 w7 := (hkp.out.alloc _).grown hgrow fun b e => hvb.out b e
          have hvb7 : ∀ b, v7.ownBlock = some b → (Value.slice B out.length d).ownBlock = some b ∨ W1.heap.size ≤ b := by
            intro b hb
            rcases hblk with h1 | h1
            · exact hvb.out b (by rw [← h1]; exact hb)
            · rw [h1] at hb; injection hb with hb; exact .inr (by first | omega | (simp at hb; omega))
          have hown7' : w7.ownsRow 0 2 1 v7 (outs ++ [x]).length (ints (outs ++ [x])) := by
            have e1 : (outs ++ [x]).length = outs.length + 1 := by simp
            rw [e1]; simpa [ints] using hown7
          have HKP7 := Lib.hid hkp7
          have HVB7 := Lib.hid hvb7
          have HO7 := Lib.hid hown7'
          clear hkp7 hvb7 hown7 hown7' hgrow hblk
          go_wp2
          go_roundw
          case rel => exact ⟨k + 1, by omega, by go_num, outs ++ [x], HO7.out, by simp; omega, HVB7, HL2, HKP7⟩
          case measure => simp [intOf]; omega
    · obtain rfl : k = sx.length := by omega
      have hfin := HRES2.out
      rw [hloop.out, List.drop_length] at hfin
      simp only [reachLoop, if_true] at hfin
      have hl2 := (hLr.l.cell 2).trans rfl
      have HF := Lib.hid hfin
      have HKW := Lib.hid hkw
      have HVV := Lib.hid hvv
      clear hfin hloop hkw hvv hLr
      go_wp2
      go_quiet (fail)
      go_wp2
      go_ret2
      refine ⟨.slice vA outs.length vc, by rw [HF.out]; simp; exact decide_eq_decide.2 Iff.rfl, by rw [HF.out]; exact HVV.out, ?_, HKW.out.drewN _⟩
      intro b hb
      rcases hvb.out b hb with h1 | h1
      · exact .inl h1
      · have := HK.out.size; exact .inr (by omega)

theorem reach_any (A : Adr) (L : LandSt) (height : Nat) : height ≤ 8 → ReachLaw A L height := by
  induction height with
  | zero =>
    intro _ h v out w hL hh hown _ _
    exact reach_fail A L h 0 (by omega) v out w hL hh hown (.inr (.inl rfl))
  | succ n ih =>
    intro h8 h v out w hL hh hown hap hlen
    by_cases hf : (unpackB (wordsB L h)).2 = false ∨ L.c.n ≤ out.length
    · have e : reachFrom L (n + 1) h out = ([], false) := by
        show (if (unpackB (wordsB L h)).2 = false ∨ L.c.n ≤ out.length then _ else _) = _
        rw [if_pos hf]
      rw [e]
      exact reach_fail A L h (n + 1) h8 v out w hL hh hown (by rcases hf with h | h; exact .inl h; exact .inr (.inr h))
    · have h1 : (unpackB (wordsB L h)).2 = true := by
        cases hb : (unpackB (wordsB L h)).2
        · exact absurd (.inl hb) hf
        · rfl
      exact reach_go A L n (by omega) (ih (by omega)) h v out w hL hh hown hap h1 (by omega)
end Go.Proofs.Ytljjobdboambiaa
