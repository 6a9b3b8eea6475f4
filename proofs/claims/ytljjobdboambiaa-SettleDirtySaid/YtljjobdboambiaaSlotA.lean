/- slot: entries, formed nodes. -/
import Derived.Test.YtljjobdboambiaaSlices
import Derived.Test.YtljjobdboambiaaSlots
import Derived.BigGuardPart
namespace Go.Proofs.Ytljjobdboambiaa
open Go.RowKit Samara

/-- A slice's value, and what it reads as. -/
structure Sl where
  A : Option Addr
  c : Nat
  xs : List Int
def Sl.v (s : Sl) : Value := .slice s.A s.xs.length s.c
def Sl.Is (s : Sl) (w : World) : Prop := Rd w 1 s.A s.xs.length (ints s.xs)
theorem Sl.Is.at_ {s : Sl} {w : World} (h : s.Is w) {k : Nat} (hk : k < s.xs.length) : ∃ ad, s.A = some ad ∧ w.cell? (ad.add k) = some (.int .i64 (s.xs.getD k 0)) := by
  obtain ⟨ad, u, e, hu, hc⟩ := Rd.at_ h hk
  refine ⟨ad, e, ?_⟩
  rw [hc]
  simp only [getElem?_ints, List.getElem?_eq_getElem hk, Option.map_some, Option.some.injEq] at hu
  simp [← hu, hk]
theorem Sl.Is.keep {s : Sl} {w w' : World} {F : Nat → Prop} (h : s.Is w) (hk : Kp F w w') (ho : Off F s.v) : s.Is w' := Rd.keep h hk ho
theorem off_false (v : Value) : Off (fun _ => False) v := fun _ _ e => e

/-- A node by value. -/
def nodeV (inner : Bool) (lo : Int) (e s g : Sl) : Value := .agg #[.bool inner, .int .i64 lo, e.v, s.v, g.v]

theorem beq_dec (a b : Int) : (a == b) = decide (a = b) := by rw [Bool.eq_iff_iff]; simp
def entryB (inner : Bool) (from_ stop h g : Int) : Bool := entryOk inner from_ stop h g

set_option maxHeartbeats 4000000 in
theorem entry_at (inner : Bool) (lo : Int) (e s g : Sl) (k : Nat) (from_ : Int) (w : World) (he : e.Is w) (hs : s.Is w) (hg : g.Is w)
    (h1 : k < e.xs.length) (h2 : k < s.xs.length) (h3 : k < g.xs.length) (hf : 0 ≤ from_) (hf2 : from_ ≤ 9223372036854775807) (he64 : I64 (e.xs.getD k 0)) :
    Calls Try.prog 34 #[nodeV inner lo e s g, .int .i64 k, .int .i64 from_] w fun r w' =>
      r = .returned (.bool (entryB inner from_ (e.xs.getD k 0) (s.xs.getD k 0) (g.xs.getD k 0))) ∧ Kp (fun _ => False) w w' := by
  obtain ⟨ea, eA, ec⟩ := he.at_ h1
  obtain ⟨sa, sA, sc⟩ := hs.at_ h2
  obtain ⟨ga, gA, gc⟩ := hg.at_ h3
  have hv : nodeV inner lo e s g = .agg #[.bool inner, .int .i64 lo, .slice (some ea) e.xs.length e.c, .slice (some sa) s.xs.length s.c, .slice (some ga) g.xs.length g.c] := by
    simp only [nodeV, Sl.v, eA, sA, gA]
  rw [hv]
  generalize e.xs.getD k 0 = stop at *
  generalize s.xs.getD k 0 = h at *
  generalize g.xs.getD k 0 = gp at *
  generalize e.xs.length = le at *
  generalize s.xs.length = ls at *
  generalize g.xs.length = lg at *
  have b1 : (k : Int) < (le : Int) := by omega
  have b2 : (k : Int) < (ls : Int) := by omega
  have b3 : (k : Int) < (lg : Int) := by omega
  have ec' : ∀ o, (w.alloc o).cell? (ea.add k) = some (.int .i64 stop) := fun o => ((Kp.refl (fun _ => False) w).alloc o).cell ec (fun e => e)
  have sc' : ∀ o, (w.alloc o).cell? (sa.add k) = some (.int .i64 h) := fun o => ((Kp.refl (fun _ => False) w).alloc o).cell sc (fun e => e)
  have gc' : ∀ o, (w.alloc o).cell? (ga.add k) = some (.int .i64 gp) := fun o => ((Kp.refl (fun _ => False) w).alloc o).cell gc (fun e => e)
  unfold I64 at he64
  clear hv eA sA gA he hs hg ec sc gc h1 h2 h3
  go_enter Try.func34, Try.ntmps34
  go_wp2
  go_quiet (fail)
  go_wp2
  all_goals
    go_ret
    refine ⟨ret_bool ?_, by repeat (first | exact Kp.refl _ _ | apply Kp.drewN | apply Kp.drew | apply Kp.alloc)⟩
    simp_all [entryB, entryOk, whole]
    all_goals first | omega | exact beq_dec _ _

theorem entriesOk_cons (inner : Bool) (f e h g : Int) (es hs gs : List Int) : entriesOk inner f (e :: es) (h :: hs) (g :: gs) = (entryOk inner f e h g && entriesOk inner e es hs gs) := by rw [entriesOk]
/-- From entry k on. -/
def okFrom (inner : Bool) (lo : Int) (es hs gs : List Int) (k : Nat) : Bool := entriesOk inner (if k = 0 then lo else es.getD (k - 1) 0) (es.drop k) (hs.drop k) (gs.drop k)
theorem okFrom_step (inner : Bool) (lo : Int) (es hs gs : List Int) (k : Nat) (h1 : k < es.length) (h2 : k < hs.length) (h3 : k < gs.length) :
    okFrom inner lo es hs gs k = (entryB inner (if k = 0 then lo else es.getD (k - 1) 0) (es.getD k 0) (hs.getD k 0) (gs.getD k 0) && okFrom inner lo es hs gs (k + 1)) := by
  unfold okFrom entryB
  rw [List.drop_eq_getElem_cons h1, List.drop_eq_getElem_cons h2, List.drop_eq_getElem_cons h3, entriesOk_cons]
  simp [h1, h2, h3]
theorem okFrom_end (inner : Bool) (lo : Int) (es hs gs : List Int) : okFrom inner lo es hs gs es.length = true := by
  unfold okFrom
  rw [List.drop_length]
  cases h : hs.drop es.length <;> simp [entriesOk]

def nodeOf' (inner : Bool) (lo : Int) (e s g : Sl) : Samara.Node := ⟨inner, lo, e.xs, s.xs, g.xs⟩
def formedB (n : Samara.Node) : Bool := nodeFormed n
theorem nodeFormed_iff (n : Samara.Node) : nodeFormed n = true ↔ (1 ≤ n.ends.length ∧ n.ends.length ≤ 8 ∧ n.slots.length = n.ends.length ∧ n.gaps.length = n.ends.length ∧ 65536 ≤ n.lo ∧ n.lo % 4096 = 0 ∧
    n.ends.getD (n.ends.length - 1) 0 ≤ 2097152) ∧ entriesOk n.inner n.lo n.ends n.slots n.gaps = true := by
  have e1 : n.ends.getLastD 0 = n.ends.getD (n.ends.length - 1) 0 := by
    rw [List.getLastD_eq_getLast?, List.getLast?_eq_getElem?, List.getD_eq_getElem?_getD]
  unfold nodeFormed whole
  simp only [Bool.and_eq_true, decide_eq_true_eq, e1, and_assoc]
theorem formedB_eq (inner : Bool) (lo : Int) (e s g : Sl) (h : 1 ≤ e.xs.length ∧ e.xs.length ≤ 8 ∧ s.xs.length = e.xs.length ∧ g.xs.length = e.xs.length ∧ 65536 ≤ lo ∧ lo % 4096 = 0 ∧ e.xs.getD (e.xs.length - 1) 0 ≤ 2097152) :
    formedB (nodeOf' inner lo e s g) = okFrom inner lo e.xs s.xs g.xs 0 := by
  have e2 : okFrom inner lo e.xs s.xs g.xs 0 = entriesOk inner lo e.xs s.xs g.xs := rfl
  rw [Bool.eq_iff_iff, e2]
  exact (nodeFormed_iff (nodeOf' inner lo e s g)).trans ⟨fun k => k.2, fun k => ⟨h, k⟩⟩
theorem formedB_no (inner : Bool) (lo : Int) (e s g : Sl)
    (h : ¬ (1 ≤ e.xs.length ∧ e.xs.length ≤ 8 ∧ s.xs.length = e.xs.length ∧ g.xs.length = e.xs.length ∧ 65536 ≤ lo ∧ lo % 4096 = 0 ∧ e.xs.getD (e.xs.length - 1) 0 ≤ 2097152)) : formedB (nodeOf' inner lo e s g) = false := by
  rw [Bool.eq_false_iff]
  exact fun hf => h ((nodeFormed_iff (nodeOf' inner lo e s g)).1 hf).1

set_option maxHeartbeats 4000000 in
theorem formed_no (inner : Bool) (lo : Int) (e s g : Sl) (w : World) (he : e.Is w) (hlo : I64 lo) (hle : e.xs.length ≤ 1000000)
    (h : ¬ (1 ≤ e.xs.length ∧ e.xs.length ≤ 8 ∧ s.xs.length = e.xs.length ∧ g.xs.length = e.xs.length ∧ 65536 ≤ lo ∧ lo % 4096 = 0 ∧ e.xs.getD (e.xs.length - 1) 0 ≤ 2097152)) :
    Calls Try.prog 27 #[nodeV inner lo e s g] w fun r w' => r = .returned (.bool false) ∧ Kp (fun _ => False) w w' := by
  unfold I64 at hlo
  by_cases h1 : 1 ≤ e.xs.length
  · obtain ⟨ea, eA, ec⟩ := he.at_ (k := e.xs.length - 1) (by omega)
    have hv : nodeV inner lo e s g = .agg #[.bool inner, .int .i64 lo, .slice (some ea) e.xs.length e.c, .slice s.A s.xs.length s.c, .slice g.A g.xs.length g.c] := by simp only [nodeV, Sl.v, eA]
    rw [hv]
    have ec' : ∀ o, (w.alloc o).cell? (ea.add (e.xs.length - 1)) = some (.int .i64 (e.xs.getD (e.xs.length - 1) 0)) := fun o => ((Kp.refl (fun _ => False) w).alloc o).cell ec (fun e => e)
    generalize e.xs.getD (e.xs.length - 1) 0 = last at *
    generalize e.xs.length = le at *
    generalize s.xs.length = ls at *
    generalize g.xs.length = lg at *
    obtain ⟨k, rfl⟩ : ∃ k, le = k + 1 := ⟨le - 1, by omega⟩
    simp only [Nat.add_sub_cancel] at ec'
    clear hv eA he ec h1
    go_enter Try.func27, Try.ntmps27
    go_wp2
    all_goals
      go_ret
      exact ⟨rfl, by repeat (first | exact Kp.refl _ _ | apply Kp.drewN | apply Kp.drew | apply Kp.alloc)⟩
  · have hv : nodeV inner lo e s g = .agg #[.bool inner, .int .i64 lo, .slice e.A e.xs.length e.c, .slice s.A s.xs.length s.c, .slice g.A g.xs.length g.c] := rfl
    rw [hv]
    have h0 : e.xs.length = 0 := by omega
    rw [h0]
    clear hv he h h0 h1 hle
    go_enter Try.func27, Try.ntmps27
    go_wp2
    all_goals
      go_ret
      exact ⟨rfl, by repeat (first | exact Kp.refl _ _ | apply Kp.drewN | apply Kp.drew | apply Kp.alloc)⟩

theorem entryOk_end {inner : Bool} {f e h g : Int} (h : entryB inner f e h g = true) : f < e := by
  unfold entryB entryOk at h
  simp only [Bool.and_eq_true, decide_eq_true_eq] at h
  exact h.1.1.1.1

set_option maxHeartbeats 4000000 in
theorem formed_yes (inner : Bool) (lo : Int) (e s g : Sl) (w : World) (he : e.Is w) (hs : s.Is w) (hg : g.Is w) (hlo : I64 lo) (h64 : ∀ k, I64 (e.xs.getD k 0))
    (h : 1 ≤ e.xs.length ∧ e.xs.length ≤ 8 ∧ s.xs.length = e.xs.length ∧ g.xs.length = e.xs.length ∧ 65536 ≤ lo ∧ lo % 4096 = 0 ∧ e.xs.getD (e.xs.length - 1) 0 ≤ 2097152) :
    Calls Try.prog 27 #[nodeV inner lo e s g] w fun r w' => r = .returned (.bool (okFrom inner lo e.xs s.xs g.xs 0)) ∧ Kp (fun _ => False) w w' := by
  unfold I64 at hlo
  obtain ⟨ea, eA, ec⟩ := he.at_ (k := e.xs.length - 1) (by omega)
  have hv : nodeV inner lo e s g = .agg #[.bool inner, .int .i64 lo, .slice (some ea) e.xs.length e.c, s.v, g.v] := by simp only [nodeV, Sl.v, eA]
  have hcells : ∀ w1, Kp (fun _ => False) w w1 → ∀ k, k < e.xs.length → w1.cell? (ea.add k) = some (.int .i64 (e.xs.getD k 0)) := by
    intro w1 hk k hlt
    obtain ⟨ea', eA', ec'⟩ := (he.keep hk (off_false _)).at_ hlt
    rw [eA] at eA'
    injection eA' with eA'
    rw [eA']
    exact ec'
  have hcall : ∀ w1, Kp (fun _ => False) w w1 → ∀ (k : Nat) (f : Int), k < e.xs.length → 0 ≤ f → f ≤ 9223372036854775807 →
      Calls Try.prog 34 #[.agg #[.bool inner, .int .i64 lo, .slice (some ea) e.xs.length e.c, s.v, g.v], .int .i64 k, .int .i64 f] w1 fun r w' =>
        r = .returned (.bool (entryB inner f (e.xs.getD k 0) (s.xs.getD k 0) (g.xs.getD k 0))) ∧ Kp (fun _ => False) w1 w' := by
    intro w1 hk k f hlt h0 h1
    rw [← hv]
    exact entry_at inner lo e s g k f w1 (he.keep hk (off_false _)) (hs.keep hk (off_false _)) (hg.keep hk (off_false _)) hlt (by omega) (by omega) h0 h1 (h64 k)
  have hstep := fun k (hlt : k < e.xs.length) => okFrom_step inner lo e.xs s.xs g.xs k hlt (by omega) (by omega)
  have hend := okFrom_end inner lo e.xs s.xs g.xs
  have ec' := hcells
  generalize hle : e.xs.length = le at *
  have hlast : ∀ o, (w.alloc o).cell? (ea.add (le - 1)) = some (.int .i64 (e.xs.getD (le - 1) 0)) := fun o => hcells _ ((Kp.refl _ w).alloc o) _ (by omega)
  generalize hlst : e.xs.getD (le - 1) 0 = last at hlast
  have g1 : last ≤ 2097152 := by rw [← hlst]; exact h.2.2.2.2.2.2
  obtain ⟨k0, rfl⟩ : ∃ k, le = k + 1 := ⟨le - 1, by omega⟩
  simp only [Nat.add_sub_cancel] at hlast
  have g2 : ¬ ((k0 : Int) + 1 < 1) := by omega
  have g3 : ¬ (8 < (k0 : Int) + 1) := by omega
  have g3n : k0 ≤ 7 := by omega
  have g4 : (s.xs.length : Int) = (k0 : Int) + 1 := by omega
  have g5 : (g.xs.length : Int) = (k0 : Int) + 1 := by omega
  have g6 : 65536 ≤ lo := h.2.2.2.2.1
  have g7 : lo % 4096 = 0 := h.2.2.2.2.2.1
  have HC := Lib.hid hcall
  have HS := Lib.hid hstep
  have HE := Lib.hid hend
  have HL := Lib.hid hcells
  have H64 := Lib.hid h64
  have HLE := Lib.hid hle
  rw [hv]
  clear hv hcall hstep hend hcells ec' h64 hle hlst eA ec he hs hg h
  generalize hsv : s.v = sv at *
  generalize hgv : g.v = gv at *
  obtain ⟨sA, sc, rfl⟩ : ∃ A c, sv = .slice A s.xs.length c := ⟨_, _, hsv.symm⟩
  obtain ⟨gA, gc, rfl⟩ : ∃ A c, gv = .slice A g.xs.length c := ⟨_, _, hgv.symm⟩
  clear hsv hgv
  generalize s.xs.length = ls at *
  generalize g.xs.length = lg at *
  have hB := Blk.new w 40 #[.bool inner, .int .i64 lo, .slice (some ea) (k0 + 1) e.c, .slice sA ls sc, .slice gA lg gc]
  have hK := (Kp.refl (fun _ => False) w).alloc (.cells #[.bool inner, .int .i64 lo, .slice (some ea) (k0 + 1) e.c, .slice sA ls sc, .slice gA lg gc] 40)
  generalize hW1 : w.alloc (.cells #[.bool inner, .int .i64 lo, .slice (some ea) (k0 + 1) e.c, .slice sA ls sc, .slice gA lg gc] 40) = W1 at hB hK
  have HB := Lib.hid hB
  have HK := Lib.hid hK
  have d2 := (hB.cell 2).trans rfl
  have d3 := (hB.cell 3).trans rfl
  have d4 := (hB.cell 4).trans rfl
  have d1 := (hB.cell 1).trans rfl
  have hsz : W1.heap.size = w.heap.size + 1 := by rw [← hW1]; simp
  have hlast1 : W1.cell? (ea.add k0) = some (.int .i64 last) := by rw [← hW1]; exact hlast _
  clear hB hK hlast
  go_enter Try.func27, Try.ntmps27
  go_wp2
  clear d1 d2 d3 d4
  go_loopw [4, 52] (fun f i wr => ∃ k : Nat, k ≤ k0 + 1 ∧ i = .int .i64 k ∧ ∃ fv : Int, f = .int .i64 fv ∧ 0 ≤ fv ∧ fv ≤ 9223372036854775807 ∧ Hid (fv = (if k = 0 then lo else e.xs.getD (k - 1) 0)) ∧
      Hid (okFrom inner lo e.xs s.xs g.xs 0 = okFrom inner lo e.xs s.xs g.xs k) ∧ Kp (fun _ => False) W1 wr) (fun _ i _ => k0 + 1 - (intOf i).toNat)
  case atStart => exact ⟨0, Nat.zero_le _, rfl, lo, rfl, by omega, hlo.2, Lib.hid rfl, Lib.hid rfl, Kp.refl _ _⟩
  case round =>
    obtain ⟨k, hk, rfl, fv, rfl, f0, f1, hfv, hok, hkp⟩ := hrel
    by_cases hlt : k < k0 + 1
    · have hBr := HB.out.keep hkp (fun e => e)
      have c0 := (hBr.cell 0).trans rfl
      have c1 := (hBr.cell 1).trans rfl
      have c2 := (hBr.cell 2).trans rfl
      have c3 := (hBr.cell 3).trans rfl
      have c4 := (hBr.cell 4).trans rfl
      clear hBr
      have hst := HS.out k hlt
      rw [← hfv.out] at hst
      have HST := Lib.hid hst
      clear hst
      cases hen : entryB inner fv (e.xs.getD k 0) (s.xs.getD k 0) (g.xs.getD k 0) with
      | true =>
        have hlt2 := entryOk_end hen
        have HEN := Lib.hid hen
        clear hen
        have hef : I64 (e.xs.getD k 0) := H64.out k
        unfold I64 at hef
        have hce : ∀ w2, Kp (fun _ => False) W1 w2 → w2.cell? (ea.add k) = some (.int .i64 (e.xs.getD k 0)) := fun w2 h2 => HL.out w2 (HK.out.trans' h2) k hlt
        have hcl := HC.out wr (HK.out.trans' hkp) k fv hlt f0 f1
        rw [HEN.out] at hcl
        have hok' : okFrom inner lo e.xs s.xs g.xs 0 = okFrom inner lo e.xs s.xs g.xs (k + 1) := by rw [hok.out, HST.out, HEN.out]; rfl
        have hfv' : e.xs.getD k 0 = (if k + 1 = 0 then lo else e.xs.getD (k + 1 - 1) 0) := by simp
        generalize e.xs.getD k 0 = stop at hlt2 hef hce hfv'
        have HCE := Lib.hid hce
        have HCL := Lib.hid hcl
        have HOK := Lib.hid hok'
        have HFV := Lib.hid hfv'
        clear hce hcl hok' hfv' hok hfv HST HEN
        go_wp2_with fail
        refine HCL.out.mono ?_
        rintro r w2 ⟨rfl, hk2⟩
        have hkp2 := hkp.trans' hk2
        have hcs := HCE.out w2 hkp2
        have c2' := (HB.out.keep hkp2 (fun e => e)).cell 2 |>.trans rfl
        go_wp2
        go_roundw
        case rel => exact ⟨k + 1, by omega, by go_num, stop, rfl, by omega, by omega, HFV, HOK, hkp2⟩
        case measure => simp [intOf]; omega
      | false =>
        have hcl := HC.out wr (HK.out.trans' hkp) k fv hlt f0 f1
        rw [hen] at hcl
        have hok' : okFrom inner lo e.xs s.xs g.xs 0 = false := by rw [hok.out, HST.out, hen]; rfl
        have HCL := Lib.hid hcl
        have HOK := Lib.hid hok'
        clear hcl hok' hok hfv HST hen
        go_wp2_with fail
        refine HCL.out.mono ?_
        rintro r w2 ⟨rfl, hk2⟩
        go_wp2
        go_ret
        exact ⟨ret_bool HOK.out.symm, HK.out.trans' (hkp.trans' hk2)⟩
    · obtain rfl : k = k0 + 1 := by omega
      have e1 := hok.out.trans (by have := HE.out; exact this)
      have HR := Lib.hid e1
      clear e1
      go_wp2
      go_ret
      exact ⟨ret_bool HR.out.symm, HK.out.trans' hkp⟩
end Go.Proofs.Ytljjobdboambiaa
