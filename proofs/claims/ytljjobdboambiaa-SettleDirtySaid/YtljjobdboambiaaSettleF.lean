/- replace.New: a new land is as the plain model says. -/
import Derived.Test.YtljjobdboambiaaSettleA
import Derived.StillTailTactics
namespace Go.Proofs.Ytljjobdboambiaa
open Go.RowKit Samara

def put (m : Mm) (i v : Int) : Mm := (exec m (.store i v)).2.2
def wordsTo (c : Cfg) (root : Int) (ws : List Int) (m : Mm) : Nat → Mm
  | 0 => m
  | k + 1 => put (wordsTo c root ws m k) (cellOf c root k) (ws.getD k 0)
def nextOf (i n : Int) : Int := if i = n then 0 else i + 1
def freeTo (c : Cfg) (m : Mm) : Nat → Mm
  | 0 => m
  | k + 1 => put (put (freeTo c m k) (cellOf c ((k : Int) + 2) 0) (nextOf ((k : Int) + 2) c.n)) 21 2
def rootWords : List Int := packB ⟨false, 65536, [2097152], [0], [2031616]⟩
def rooted (c : Cfg) (root : Int) (m : Mm) : Mm := put (put (put (wordsTo c root rootWords m rootWords.length) (cellOf c root 27) 1) 2 root) 3 65536
def newLand (n : Nat) : LandSt := ⟨cfgOf (24 + 2 * n) n, freeTo (cfgOf (24 + 2 * n) n) (rooted (cfgOf (24 + 2 * n) n) ((Ar.new n).born 1).1 (Mm.new (24 + 2 * n + n * 28))) (n - 1), ((Ar.new n).born 1).2⟩

theorem put_ok {m : Mm} (h : Mm.Ok m) (i : Int) {v : Int} (hv : I64 v) : Mm.Ok (put m i v) := by
  unfold put
  simp only [exec]
  split
  · intro k
    simp only [List.getD_eq_getElem?_getD, List.getElem?_set]
    split
    · split
      · simpa using hv
      · exact ⟨by decide, by decide⟩
    · simpa using h k
  · exact h

section
variable {w w' : World} {A : Adr} {L : LandSt} {F : Nat → Prop}
theorem LandIs.off (h : LandIs w A L) : A.l ≠ A.m ∧ A.l ≠ A.c ∧ A.l ≠ A.a ∧ A.l ≠ A.s ∧ A.m ≠ A.c ∧ A.m ≠ A.a ∧ A.m ≠ A.s ∧ A.c ≠ A.a ∧ A.c ≠ A.s ∧ A.a ≠ A.s :=
  ⟨h.l.ne_ h.m.m (by decide), h.l.ne_ h.m.c (by decide), h.l.ne_ h.a.a (by decide), h.l.ne_ h.a.s (by decide), h.m.ne, h.m.m.ne_ h.a.a (by decide), h.m.m.ne_ h.a.s (by decide),
    h.m.c.ne_ h.a.a (by decide), h.m.c.ne_ h.a.s (by decide), h.a.ne⟩
end

theorem landStore (A : Adr) (L : LandSt) (i v : Int) (hv : I64 v) (w : World) (h : LandIs w A L) :
    Calls Try.prog 8 #[.pointer (some ⟨A.m, 0, none⟩), .int .i64 i, .int .i64 v] w fun e w' =>
      ∃ q, e = .returned (.int .i64 q) ∧ LandIs w' A { L with mm := put L.mm i v } ∧ Kp (fun b => b = A.m ∨ b = A.c) w w' := by
  obtain ⟨n1, n2, n3, n4, n5, n6, n7, n8, n9, n10⟩ := h.off
  refine (memStore w A.m A.c L.mm i v h.m).mono ?_
  rintro e w' ⟨rfl, hm, hk⟩
  exact ⟨_, rfl, ⟨h.l.keep hk (by rintro (e | e) <;> contradiction), hm, h.a.keep hk (by rintro (e | e) <;> first | contradiction | exact n6 e.symm | exact n8 e.symm) (by rintro (e | e) <;> first | contradiction | exact n7 e.symm | exact n9 e.symm),
    h.cfg, put_ok h.ok i hv⟩, hk⟩

theorem landBorn (A : Adr) (L : LandSt) (n : Nat) (w : World) (h : LandIs w A L) (hn : n < L.ar.slots.length) :
    Calls Try.prog 6 #[.pointer (some ⟨A.a, 0, none⟩), .int .i64 ((n : Int) + 1)] w fun e w' =>
      e = .returned (.int .i64 (L.ar.born ((n : Int) + 1)).1) ∧ LandIs w' A { L with ar := (L.ar.born ((n : Int) + 1)).2 } ∧ Kp (fun b => b = A.a ∨ b = A.s) w w' := by
  obtain ⟨n1, n2, n3, n4, n5, n6, n7, n8, n9, n10⟩ := h.off
  refine (born_at A.a A.s L.c.first L.ar n w h.a hn).mono ?_
  rintro e w' ⟨rfl, ha, hk⟩
  refine ⟨rfl, ⟨h.l.keep hk (by rintro (e | e) <;> contradiction), h.m.keep hk (by rintro (e | e) <;> contradiction) (by rintro (e | e) <;> contradiction), ha, ?_, h.ok⟩, hk⟩
  have e1 : (L.ar.born ((n : Int) + 1)).2.slots.length = L.ar.slots.length := by unfold Ar.born; split <;> simp
  show L.c = cfgOf L.c.first (L.ar.born ((n : Int) + 1)).2.slots.length
  rw [e1]; exact h.cfg

set_option maxHeartbeats 400000 in
theorem next_any (i n : Int) (hi : 0 ≤ i) (hi' : i ≤ 100000) (w : World) : Calls Try.prog 14 #[.int .i64 i, .int .i64 n] w fun e w' => e = .returned (.int .i64 (nextOf i n)) ∧ w = w' := by
  by_cases h : i = n
  · have hb : (i == n) = true := by simpa using h
    have e : nextOf i n = 0 := by simp [nextOf, h]
    have H := Lib.hid e
    clear e
    go_enter Try.func14, Try.ntmps14
    go_wp2
    go_ret
    exact ⟨by rw [H.out]; rfl, rfl⟩
  · have hb : (i == n) = false := by simpa using h
    have e : nextOf i n = i + 1 := by simp [nextOf, h]
    have H := Lib.hid e
    clear e
    go_enter Try.func14, Try.ntmps14
    go_wp2
    go_ret
    exact ⟨by rw [H.out]; rfl, rfl⟩

/-- All of a land's blocks are new. -/
def Fresh (w : World) (A : Adr) : Prop := w.heap.size ≤ A.l ∧ w.heap.size ≤ A.m ∧ w.heap.size ≤ A.c ∧ w.heap.size ≤ A.a ∧ w.heap.size ≤ A.s
theorem born_one (n : Nat) (hn : 1 ≤ n) : ((Ar.new n).born 1).1 = 65537 := by
  obtain ⟨k, rfl⟩ : ∃ k, n = k + 1 := ⟨n - 1, by omega⟩
  unfold Ar.born
  rw [if_pos (by simp only [hasSlot, Ar.new, List.length_replicate, Bool.and_eq_true, decide_eq_true_eq]; omega)]
  rfl
theorem new_ok (n : Nat) : Mm.Ok (Mm.new n) := by
  intro k
  simp only [Mm.new, List.getD_eq_getElem?_getD, List.getElem?_replicate]
  split <;> exact ⟨by decide, by decide⟩

theorem getD_some (l : List Int) (k : Nat) (h : k < l.length) : l[k]? = some (l.getD k 0) := by simp [List.getD_eq_getElem?_getD, h]
theorem rootWords_len : rootWords.length = 28 := by decide +kernel
theorem rootWords_ok (k : Nat) : I64 (rootWords.getD k 0) := by
  have h : ∀ x ∈ rootWords, -9223372036854775808 ≤ x ∧ x ≤ 9223372036854775807 := by decide +kernel
  rw [List.getD_eq_getElem?_getD]
  cases e : rootWords[k]? with
  | none => exact ⟨by decide, by decide⟩
  | some x => exact h x (List.mem_of_getElem? e)
theorem Kp.fresh {F : Nat → Prop} {w w1 w2 : World} (h : Kp (fun _ => False) w w1) (k : Kp F w1 w2) (hF : ∀ b, F b → w.heap.size ≤ b) : Kp (fun _ => False) w w2 :=
  h.trans k fun b hb hf => by have := hF b hf; omega
theorem Fresh.mem {w : World} {A : Adr} (h : Fresh w A) : ∀ b, b = A.m ∨ b = A.c → w.heap.size ≤ b := by
  obtain ⟨h1, h2, h3, h4, h5⟩ := h
  rintro b (rfl | rfl) <;> assumption
theorem Fresh.ar {w : World} {A : Adr} (h : Fresh w A) : ∀ b, b = A.a ∨ b = A.s → w.heap.size ≤ b := by
  obtain ⟨h1, h2, h3, h4, h5⟩ := h
  rintro b (rfl | rfl) <;> assumption

theorem rd_lit (w : World) (g : Nat) (x : Int) (h : Blk w g 2 #[.int .i64 x]) : Rd w 1 (some ⟨g, 0, none⟩) 1 (ints [x]) := by
  refine ⟨rfl, fun _ => ⟨_, rfl, ?_⟩⟩
  intro j u hu
  match j, hu with
  | 0, hu => exact (h.cell 0).trans hu
set_option maxHeartbeats 1000000 in
theorem packRoot (w : World) :
    Calls Try.prog 12 #[.agg #[.bool false, .int .i64 65536, .slice (some ⟨w.heap.size, 0, none⟩) 1 1, .slice (some ⟨w.heap.size + 1, 0, none⟩) 1 1, .slice (some ⟨w.heap.size + 1 + 1, 0, none⟩) 1 1]]
      ((((w.alloc (.cells #[.int .i64 2097152] 2)).alloc (.cells #[.int .i64 0] 2)).alloc (.cells #[.int .i64 2031616] 2)).alloc
        (.cells #[.bool false, .int .i64 65536, .slice (some ⟨w.heap.size, 0, none⟩) 1 1, .slice (some ⟨w.heap.size + 1, 0, none⟩) 1 1, .slice (some ⟨w.heap.size + 1 + 1, 0, none⟩) 1 1] 40))
      fun r w' => ∃ A c, r = .returned (.slice A 28 c) ∧ w'.ownsRow 0 2 1 (.slice A 28 c) 28 (ints rootWords) ∧ New w (.slice A 28 c) ∧ Kp (fun _ => False) w w' := by
  have hk := ((((Kp.refl (fun _ => False) w).alloc (.cells #[.int .i64 2097152] 2)).alloc (.cells #[.int .i64 0] 2)).alloc (.cells #[.int .i64 2031616] 2)).alloc
        (.cells #[.bool false, .int .i64 65536, .slice (some ⟨w.heap.size, 0, none⟩) 1 1, .slice (some ⟨w.heap.size + 1, 0, none⟩) 1 1, .slice (some ⟨w.heap.size + 1 + 1, 0, none⟩) 1 1] 40)
  have b1 := (((Blk.new w 2 #[.int .i64 2097152]).alloc (.cells #[.int .i64 0] 2)).alloc (.cells #[.int .i64 2031616] 2)).alloc
        (.cells #[.bool false, .int .i64 65536, .slice (some ⟨w.heap.size, 0, none⟩) 1 1, .slice (some ⟨w.heap.size + 1, 0, none⟩) 1 1, .slice (some ⟨w.heap.size + 1 + 1, 0, none⟩) 1 1] 40)
  have b2 := ((Blk.new (w.alloc (.cells #[.int .i64 2097152] 2)) 2 #[.int .i64 0]).alloc (.cells #[.int .i64 2031616] 2)).alloc
        (.cells #[.bool false, .int .i64 65536, .slice (some ⟨w.heap.size, 0, none⟩) 1 1, .slice (some ⟨w.heap.size + 1, 0, none⟩) 1 1, .slice (some ⟨w.heap.size + 1 + 1, 0, none⟩) 1 1] 40)
  have b3 := (Blk.new ((w.alloc (.cells #[.int .i64 2097152] 2)).alloc (.cells #[.int .i64 0] 2)) 2 #[.int .i64 2031616]).alloc
        (.cells #[.bool false, .int .i64 65536, .slice (some ⟨w.heap.size, 0, none⟩) 1 1, .slice (some ⟨w.heap.size + 1, 0, none⟩) 1 1, .slice (some ⟨w.heap.size + 1 + 1, 0, none⟩) 1 1] 40)
  have e1 : (w.alloc (.cells #[.int .i64 2097152] 2)).heap.size = w.heap.size + 1 := by simp
  have e2 : ((w.alloc (.cells #[.int .i64 2097152] 2)).alloc (.cells #[.int .i64 0] 2)).heap.size = w.heap.size + 1 + 1 := by simp
  rw [e1] at b2
  rw [e2] at b3
  generalize (((w.alloc (.cells #[.int .i64 2097152] 2)).alloc (.cells #[.int .i64 0] 2)).alloc (.cells #[.int .i64 2031616] 2)).alloc
        (.cells #[.bool false, .int .i64 65536, .slice (some ⟨w.heap.size, 0, none⟩) 1 1, .slice (some ⟨w.heap.size + 1, 0, none⟩) 1 1, .slice (some ⟨w.heap.size + 1 + 1, 0, none⟩) 1 1] 40) = w' at hk b1 b2 b3 ⊢
  have hp := pack_any false 65536 ⟨some ⟨w.heap.size, 0, none⟩, 1, [2097152]⟩ ⟨some ⟨w.heap.size + 1, 0, none⟩, 1, [0]⟩ ⟨some ⟨w.heap.size + 1 + 1, 0, none⟩, 1, [2031616]⟩ w' (rd_lit _ _ _ b1) (rd_lit _ _ _ b2) (rd_lit _ _ _ b3)
    ⟨by decide, by decide⟩ (by
      intro k
      match k with
      | 0 => exact ⟨by simp, by simp⟩
      | k + 1 => exact ⟨by simp, by simp⟩) (by simp)
  have e : packB (nodeOf' false 65536 ⟨some ⟨w.heap.size, 0, none⟩, 1, [2097152]⟩ ⟨some ⟨w.heap.size + 1, 0, none⟩, 1, [0]⟩ ⟨some ⟨w.heap.size + 1 + 1, 0, none⟩, 1, [2031616]⟩) = rootWords := rfl
  rw [e, rootWords_len] at hp
  refine hp.mono ?_
  rintro r w2 ⟨v, rfl, hv, hnv, hk2⟩
  obtain ⟨vA, vc, rfl⟩ := own_form hv
  exact ⟨vA, vc, rfl, hv, fun g hg => Nat.le_trans hk.size (hnv g hg), hk.trans' hk2⟩

theorem landCell (A : Adr) (L : LandSt) (hd : Int) (hh : I64 hd) (word : Int) (w : World) (h : LandIs w A L) :
    Calls Try.prog 13 #[.pointer (some ⟨A.a, 0, none⟩), .int .i64 hd, .int .i64 word] w fun e w' => e = .returned (.int .i64 (cellOf L.c hd word)) ∧ w' = w := by
  have := cell_any A.a A.s L.c.first L.ar hd word hh w h.a
  rw [← h.cfg] at this
  exact this.mono fun e w' ⟨h1, h2⟩ => ⟨h1, h2.symm⟩

set_option maxHeartbeats 2000000 in
theorem new_any (n : Nat) (hn1 : 1 ≤ n) (hn : n ≤ 1000) (w : World) :
    Calls Try.prog 5 #[.int .i64 n] w fun e w' => ∃ A : Adr, e = .returned (.pointer (some ⟨A.l, 0, none⟩)) ∧ LandIs w' A (newLand n) ∧ Fresh w A ∧ Kp (fun _ => False) w w' := by
  have h1 : (n : Int) ≥ 1 := by omega
  have h2 : (n : Int) ≤ 1000 := by omega
  have h3 : (0 : Int) ≤ n := by omega
  have hcn := cellNew (24 + 2 * n + n * 28) (by omega)
  have han := arenaNew (24 + 2 * n) n (by omega) hn
  have hc1 : (((24 + 2 * n + n * 28 : Nat)) : Int) = 24 + 2 * (n : Int) + (n : Int) * 28 := by omega
  have hc2 : (((24 + 2 * n : Nat)) : Int) = 24 + 2 * (n : Int) := by omega
  rw [hc1] at hcn
  rw [hc2] at han
  have hb1 : ∀ A L w, LandIs w A L → 0 < L.ar.slots.length → Calls Try.prog 6 #[.pointer (some ⟨A.a, 0, none⟩), .int .i64 1] w fun e w' =>
      e = .returned (.int .i64 (L.ar.born 1).1) ∧ LandIs w' A { L with ar := (L.ar.born 1).2 } ∧ Kp (fun b => b = A.a ∨ b = A.s) w w' := fun A L w h hn => landBorn A L 0 w h hn
  have HCN := Lib.hid hcn
  have HAN := Lib.hid han
  have HB1 := Lib.hid hb1
  clear hcn han hb1 hc1 hc2
  go_enter Try.func5, Try.ntmps5
  go_wp2_with fail
  ((with_reducible refine (HCN.out w).mono ?_))
  rintro r w1 ⟨m, c, rfl, hm, hm1, hm2, hk1⟩
  go_wp2_with fail
  ((with_reducible refine (HAN.out w1).mono ?_))
  rintro r w2 ⟨a, s, rfl, ha, ha1, ha2, hk2⟩
  go_wp2_with fail
  have hland : LandIs (w2.alloc (.cells #[.pointer (some ⟨m, 0, none⟩), .pointer (some ⟨a, 0, none⟩), .int .i64 n] 28)) ⟨w2.heap.size, m, c, a, s⟩ ⟨cfgOf (24 + 2 * n) n, Mm.new (24 + 2 * n + n * 28), Ar.new n⟩ := by
    have hk := (Kp.refl (fun _ => False) w2).alloc (.cells #[.pointer (some ⟨m, 0, none⟩), .pointer (some ⟨a, 0, none⟩), .int .i64 n] 28)
    refine ⟨Blk.new _ _ _, (hm.keep hk2 (fun e => e) (fun e => e)).keep hk (fun e => e) (fun e => e), ha.keep hk (fun e => e) (fun e => e), ?_, new_ok _⟩
    simp [Ar.new, cfgOf]
  have hkk : Kp (fun _ => False) w (w2.alloc (.cells #[.pointer (some ⟨m, 0, none⟩), .pointer (some ⟨a, 0, none⟩), .int .i64 n] 28)) := (hk1.trans' hk2).alloc _
  have hfr : Fresh w ⟨w2.heap.size, m, c, a, s⟩ := by
    have := hk1.size; have := hk2.size
    exact ⟨by simp only; omega, hm1, hm2, by simp only; omega, by simp only; omega⟩
  obtain ⟨A, hA⟩ : ∃ A : Adr, A = ⟨w2.heap.size, m, c, a, s⟩ := ⟨_, rfl⟩
  have hAl : w2.heap.size = A.l := by rw [hA]
  have hAa : a = A.a := by rw [hA]
  rw [← hA] at hland hfr
  rw [hAa] at hland hkk ⊢
  rw [hAl]
  generalize w2.alloc (.cells #[.pointer (some ⟨m, 0, none⟩), .pointer (some ⟨A.a, 0, none⟩), .int .i64 n] 28) = w3 at hland hkk ⊢
  clear hm ha hm1 hm2 ha1 ha2 hk1 hk2 hA hAl hAa
  obtain ⟨r0, hr0⟩ : ∃ r, r = ((Ar.new n).born 1).1 := ⟨_, rfl⟩
  obtain ⟨ar1, har1⟩ : ∃ r, r = ((Ar.new n).born 1).2 := ⟨_, rfl⟩
  obtain ⟨m0, hm0⟩ : ∃ r, r = Mm.new (24 + 2 * n + n * 28) := ⟨_, rfl⟩
  obtain ⟨c0, hc0⟩ : ∃ r, r = cfgOf (24 + 2 * n) n := ⟨_, rfl⟩
  have hr64 : I64 r0 := by rw [hr0, born_one n hn1]; exact ⟨by decide, by decide⟩
  have hnew : newLand n = ⟨c0, freeTo c0 (rooted c0 r0 m0) (n - 1), ar1⟩ := by rw [hr0, har1, hm0, hc0]; rfl
  have hcn0 : c0.n = n := by rw [hc0]; rfl
  have hborn := HB1.out A _ w3 hland (by show 0 < (Ar.new n).slots.length; simp only [Ar.new, List.length_replicate]; omega)
  simp only [← hr0, ← har1, ← hm0, ← hc0] at hborn
  have HBORN := Lib.hid hborn
  have HNEW := Lib.hid hnew
  have HFR := Lib.hid hfr
  have HKK := Lib.hid hkk
  have HN0 := Lib.hid hcn0
  clear hborn hnew hfr hkk hland hcn0 hr0 har1 hm0 hc0 HB1 HCN HAN
  ((with_reducible refine HBORN.out.mono ?_))
  rintro r w4 ⟨rfl, hland, hk4⟩
  have hkk : Kp (fun _ => False) w w4 := HKK.out.fresh hk4 HFR.out.ar
  clear hk4 HKK HBORN
  have HL := Lib.hid hland
  have HKK := Lib.hid hkk
  clear hland hkk
  go_wp2_with fail
  ((with_reducible refine (packRoot w4).mono ?_))
  rintro r w5 ⟨vA, vc, rfl, hown, hnv, hk5⟩
  have hland5 : LandIs w5 A { c := c0, mm := m0, ar := ar1 } := HL.out.keep0 hk5
  have hrd : Rd w5 1 vA 28 (ints rootWords) := Rd.of_own hown
  have hoff : Off (fun b => b = A.m ∨ b = A.c) (.slice vA 28 vc) := by
    intro g hg
    have := hnv g hg
    have h5 := HL.out.m.m.lt
    have h6 := HL.out.m.c.lt
    omega
  have hkk5 : Kp (fun _ => False) w w5 := HKK.out.trans' hk5
  have HL5 := Lib.hid hland5
  have HRD := Lib.hid hrd
  have HOFF := Lib.hid hoff
  have HK5 := Lib.hid hkk5
  clear hland5 hrd hoff hkk5 hown hnv hk5 HKK HL
  go_wp2_with fail
  go_loopw [39] (fun i wr => ∃ k : Nat, k ≤ 28 ∧ i = .int .i64 k ∧ Hid (LandIs wr A ⟨c0, wordsTo c0 r0 rootWords m0 k, ar1⟩) ∧ Hid (Kp (fun b => b = A.m ∨ b = A.c) w5 wr)) (fun i _ => 28 - (intOf i).toNat)
  case atStart => exact ⟨0, by omega, rfl, HL5, Lib.hid (Kp.refl _ _)⟩
  case round =>
    obtain ⟨k, hk, rfl, hlr, hkr⟩ := hrel
    by_cases hlt : k < 28
    · have e0 := (hlr.out.l.cell 0).trans rfl
      have e1 := (hlr.out.l.cell 1).trans rfl
      have hcell := landCell A _ r0 hr64 (k : Int) wr.drew (hlr.out.keep0 (Kp.refl _ _).drew)
      obtain ⟨ad, u, rfl, hu, hcu⟩ := (HRD.out.keep (len := 28) (cap := vc) hkr.out HOFF.out).at_ hlt
      rw [getElem?_ints, getD_some _ _ (by rw [rootWords_len]; exact hlt), Option.map_some, Option.some.injEq] at hu
      subst hu
      have hst := landStore A _ (cellOf c0 r0 k) (rootWords.getD k 0) (rootWords_ok k) wr.drew (hlr.out.keep0 (Kp.refl _ _).drew)
      have hnx : ∀ w', LandIs w' A ⟨c0, put (wordsTo c0 r0 rootWords m0 k) (cellOf c0 r0 k) (rootWords.getD k 0), ar1⟩ → LandIs w' A ⟨c0, wordsTo c0 r0 rootWords m0 (k + 1), ar1⟩ := fun _ h => h
      simp only at hcell hst
      generalize cellOf c0 r0 k = cx at hcell hst hnx
      generalize rootWords.getD k 0 = x at hcu hst hnx
      have HNX := Lib.hid hnx
      have HST := Lib.hid hst
      have HCELL := Lib.hid hcell
      have HKD : Hid (Kp (fun b => b = A.m ∨ b = A.c) wr wr.drew) := Lib.hid (Kp.refl _ _).drew
      clear hnx hst hcell
      go_wp2_with fail
      go_still_tail 12, (by kernel_rfl)
      change wpStill _ _ wr.drew _ _ _
      still_call HCELL.out
      repeat still_step
      refine wpStill_nil ?_
      change wpList _ _ _ _ _ wr.drew
      generalize wr.drew = wd at HST HKD
      go_wp2_with fail
      ((with_reducible refine HST.out.mono ?_))
      rintro r w6 ⟨q, rfl, hl6, hk6⟩
      have hkr2 : Kp (fun b => b = A.m ∨ b = A.c) w5 w6 := hkr.out.trans' (HKD.out.trans' hk6)
      have HL6 := Lib.hid (HNX.out w6 hl6)
      have HK6 := Lib.hid hkr2
      clear hkr2 hl6 hk6 e0 e1 hcu
      go_wp2
      go_roundw
      case rel => exact ⟨k + 1, by omega, by go_num, HL6, HK6⟩
      case measure => simp [intOf]; omega
    · obtain rfl : k = 28 := by omega
      have e0 := (hlr.out.l.cell 0).trans rfl
      have e1 := (hlr.out.l.cell 1).trans rfl
      have hkr2 : Kp (fun _ => False) w wr := HK5.out.fresh hkr.out HFR.out.mem
      have hcell := landCell A _ r0 hr64 27 wr.drew (hlr.out.keep0 (Kp.refl _ _).drew)
      have hst := landStore A _ (cellOf c0 r0 27) 1 ⟨by decide, by decide⟩ wr.drew (hlr.out.keep0 (Kp.refl _ _).drew)
      have hro : ∀ w', LandIs w' A ⟨c0, put (put (put (wordsTo c0 r0 rootWords m0 28) (cellOf c0 r0 27) 1) 2 r0) 3 65536, ar1⟩ → LandIs w' A ⟨c0, freeTo c0 (rooted c0 r0 m0) 0, ar1⟩ := fun _ h => by
        unfold rooted freeTo; rw [rootWords_len]; exact h
      simp only at hcell hst
      generalize cellOf c0 r0 27 = cx at hcell hst hro
      generalize wordsTo c0 r0 rootWords m0 28 = m28 at hst hro
      generalize rooted c0 r0 m0 = mr at HNEW hro
      have HST := Lib.hid hst
      have HCELL := Lib.hid hcell
      have HRO := Lib.hid hro
      have HKW := Lib.hid hkr2
      have HKD : Hid (Kp (fun _ => False) wr wr.drew) := Lib.hid (Kp.refl _ _).drew
      clear hst hcell hro hkr2 hkr hlr HRD HOFF HK5 HL5
      go_wp2_with fail
      go_still_tail 10, (by kernel_rfl)
      change wpStill _ _ wr.drew _ _ _
      still_call HCELL.out
      repeat still_step
      refine wpStill_nil ?_
      change wpList _ _ _ _ _ wr.drew
      have hkw : Kp (fun _ => False) w wr.drew := HKW.out.drew
      have HKW2 := Lib.hid hkw
      clear hkw
      generalize wr.drew = wd at HST HKW2
      go_wp2_with fail
      ((with_reducible refine HST.out.mono ?_))
      rintro r w6 ⟨q, rfl, hl6, hk6⟩
      have hkw6 := HKW2.out.fresh hk6 HFR.out.mem
      have hst := landStore A _ 2 r0 hr64 w6 hl6
      have e0 := (hl6.l.cell 0).trans rfl
      simp only at hst
      have HST2 := Lib.hid hst
      have HK6 := Lib.hid hkw6
      clear hst hl6 hk6 hkw6 HST HKW HKW2 HCELL HKD
      go_wp2_with fail
      ((with_reducible refine HST2.out.mono ?_))
      rintro r w7 ⟨q, rfl, hl7, hk7⟩
      have hkw7 := HK6.out.fresh hk7 HFR.out.mem
      have hst := landStore A _ 3 65536 ⟨by decide, by decide⟩ w7 hl7
      have e0 := (hl7.l.cell 0).trans rfl
      simp only at hst
      have HST3 := Lib.hid hst
      have HK7 := Lib.hid hkw7
      clear hst hl7 hk7 hkw7 HST2 HK6
      go_wp2_with fail
      ((with_reducible refine HST3.out.mono ?_))
      rintro r w8 ⟨q, rfl, hl8, hk8⟩
      have hkw8 := HK7.out.fresh hk8 HFR.out.mem
      have HL8 := Lib.hid (HRO.out w8 hl8)
      have HK8 := Lib.hid hkw8
      clear hl8 hk8 hkw8 HST3 HK7 HRO
      go_wp2_with fail
      go_loopw [9] (fun i wr => ∃ k : Nat, k ≤ n - 1 ∧ i = .int .i64 ((k : Int) + 2) ∧ Hid (LandIs wr A ⟨c0, freeTo c0 mr k, ar1⟩) ∧ Hid (Kp (fun _ => False) w wr)) (fun i _ => n + 1 - (intOf i).toNat)
      case atStart => exact ⟨0, by omega, rfl, HL8, HK8⟩
      case round =>
        obtain ⟨k, hk, rfl, hlr, hkr⟩ := hrel
        by_cases hlt : k + 2 ≤ n
        · have e0 := (hlr.out.l.cell 0).trans rfl
          have e1 := (hlr.out.l.cell 1).trans rfl
          have hcell := landCell A _ ((k : Int) + 2) ⟨by omega, by omega⟩ 0 wr.drew (hlr.out.keep0 (Kp.refl _ _).drew)
          have hnext : Calls Try.prog 14 #[.int .i64 ((k : Int) + 2), .int .i64 n] wr.drew fun e w' => e = .returned (.int .i64 (nextOf ((k : Int) + 2) n)) ∧ w' = wr.drew :=
            (next_any ((k : Int) + 2) n (by omega) (by omega) wr.drew).mono fun e w' h => ⟨h.1, h.2.symm⟩
          have hn64 : I64 (nextOf ((k : Int) + 2) n) := by
            unfold nextOf
            split <;> exact ⟨by omega, by omega⟩
          have hst := landStore A _ (cellOf c0 ((k : Int) + 2) 0) (nextOf ((k : Int) + 2) n) hn64 wr.drew (hlr.out.keep0 (Kp.refl _ _).drew)
          have hnx : ∀ w', LandIs w' A ⟨c0, put (put (freeTo c0 mr k) (cellOf c0 ((k : Int) + 2) 0) (nextOf ((k : Int) + 2) n)) 21 2, ar1⟩ → LandIs w' A ⟨c0, freeTo c0 mr (k + 1), ar1⟩ := fun _ h => by
            unfold freeTo; rw [HN0.out]; exact h
          simp only at hcell hst
          generalize cellOf c0 ((k : Int) + 2) 0 = cx at hcell hst hnx
          generalize nextOf ((k : Int) + 2) n = nx at hnext hst hnx
          generalize freeTo c0 mr k = mk at hst hnx
          have HKD : Hid (Kp (fun _ => False) w wr.drew) := Lib.hid hkr.out.drew
          have HNX := Lib.hid hnx
          have HST := Lib.hid hst
          have HCELL := Lib.hid hcell
          have HNEXT := Lib.hid hnext
          have hle : (k : Int) + 2 ≤ (n : Int) := by omega
          clear hnx hst hcell hnext hlr hkr
          go_wp2_with fail
          go_still_tail 13, (by kernel_rfl)
          change wpStill _ _ wr.drew _ _ _
          still_call HCELL.out
          repeat still_step
          still_call HNEXT.out
          repeat still_step
          refine wpStill_nil ?_
          change wpList _ _ _ _ _ wr.drew
          generalize wr.drew = wd at HST HKD
          go_wp2_with fail
          ((with_reducible refine HST.out.mono ?_))
          rintro r w9 ⟨q, rfl, hl9, hk9⟩
          have hkw9 := HKD.out.fresh hk9 HFR.out.mem
          have hst := landStore A _ 21 2 ⟨by decide, by decide⟩ w9 hl9
          have e0 := (hl9.l.cell 0).trans rfl
          simp only at hst
          have HST2 := Lib.hid hst
          have HK9 := Lib.hid hkw9
          clear hst hl9 hk9 hkw9 HST HCELL HNEXT HKD
          go_wp2_with fail
          ((with_reducible refine HST2.out.mono ?_))
          rintro r w10 ⟨q, rfl, hl10, hk10⟩
          have HL10 := Lib.hid (HNX.out w10 hl10)
          have HK10 := Lib.hid (HK9.out.fresh hk10 HFR.out.mem)
          clear hl10 hk10 HST2 HK9 HNX
          go_wp2
          go_roundw
          case rel => exact ⟨k + 1, by omega, by go_num, HL10, HK10⟩
          case measure => simp [intOf]; omega
        · have hgt : ¬ (k : Int) + 2 ≤ (n : Int) := by omega
          obtain rfl : k = n - 1 := by omega
          have HLR := Lib.hid hlr.out
          clear hlr
          go_wp2
          go_ret
          exact ⟨A, rfl, by rw [HNEW.out]; exact HLR.out, HFR.out, hkr.out⟩
end Go.Proofs.Ytljjobdboambiaa
