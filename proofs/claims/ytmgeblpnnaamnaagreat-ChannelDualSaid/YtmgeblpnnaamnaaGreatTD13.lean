/- Merged texts of a claim: Pow02. -/
import Derived.Test.YtmgeblpnnaamnaaGreatTD5
import Derived.Test.YtmgeblpnnaamnaaGreatTD12
namespace Go.Proofs.YtmgeblpnnaamnaaGreat
open Go.RowKit
theorem noInt_row3 {w : World} {g : Nat} {T : TypeId} {f : Nat → Value} (h : w.rowIs g T 3 f) (hf : ∀ i, i < 3 → ∀ n, f i ≠ .int .u32 n) : NoInt w g := by
 obtain ⟨cs, h1, h2, h3⟩ := h
 refine noInt_of h1 fun u hu n e => ?_
 rw [Array.mem_toList_iff] at hu
 obtain ⟨j, hj, e2⟩ := Array.getElem_of_mem hu
 have := h3 j (by omega)
 rw [Array.getElem?_eq_getElem hj, e2, e] at this
 injection this with this
 exact hf j (by omega) n this.symm
theorem natOk_boxed {w w' : World} {g : Nat} {T : TypeId} {f : Nat → Value} {A : Option Addr} {y : Nat} (h : NatOk w w.heap.size A y) (hg : w.grownBy w' (some g)) (hr : w.rowIs g T 3 f) (hf : ∀ i, i < 3 → ∀ n, f i ≠ .int .u32 n) : NatOk w' w'.heap.size A y := fun q hq => by
 obtain ⟨b', o', e, h1, h2⟩ := lims_grownO h (Nat.le_refl _) hg (fun g' e => by injection e with e; subst e; exact noInt_row3 hr hf) q hq
 exact ⟨b', o', e, Nat.lt_of_lt_of_le h1 hg.size, h2⟩
theorem ratCell_no {s : Bool} {A A2 : Option Addr} {n c m c2 : Nat} (i : Nat) (hi : i < 3) (k : Int) : ratCell (.bool s) (.slice A n c) (.slice A2 m c2) i ≠ .int .u32 k := box_noInt i hi k
theorem dl_power' {x L : Nat} (hx : dl x ≤ L) : ∀ n, dl (x ^ n) ≤ 1 + n * L
 | 0 => by rw [Nat.pow_zero, dl_one]; omega
 | n + 1 => by
  rw [Nat.pow_succ]
  have := dl_mul_le' (dl_power' hx n) hx
  rw [Nat.succ_mul]
  omega
theorem pow_sign (a : Int) : ∀ n : Nat, a ^ n = if (decide (a < 0) && decide (n % 2 = 1)) = true then -((a.natAbs ^ n : Nat) : Int) else ((a.natAbs ^ n : Nat) : Int)
 | 0 => by simp
 | n + 1 => by
  rw [Int.pow_succ, pow_sign a n, Nat.pow_succ]
  by_cases ha : a < 0
  ·have e : a = -(a.natAbs : Int) := by omega
   have hd : decide (a < 0) = true := by simpa using ha
   rw [hd]
   rcases (show n % 2 = 0 ∨ n % 2 = 1 by omega) with h | h
   ·have h2 : (n + 1) % 2 = 1 := by omega
    simp only [h, h2, Bool.true_and, decide_true, decide_false, if_true, Nat.zero_ne_one, if_false, Bool.false_eq_true]
    conv => lhs; rw [e]
    push_cast
    simp only [Int.natAbs_neg, Int.natAbs_natCast]
    exact Int.mul_neg _ _
   ·have h2 : (n + 1) % 2 = 0 := by omega
    simp only [h, h2, Bool.true_and, decide_true, decide_false, if_true, Nat.zero_ne_one, if_false, Bool.false_eq_true]
    conv => lhs; rw [e]
    push_cast
    simp only [Int.natAbs_neg, Int.natAbs_natCast]
    exact Int.neg_mul_neg _ _
  ·have e : a = (a.natAbs : Int) := by omega
   have hd : decide (a < 0) = false := by simpa using ha
   rw [hd]
   simp only [Bool.false_and, if_false, Bool.false_eq_true]
   conv => lhs; rw [e]
   push_cast
   simp
theorem powR_mk (r : Rat) : ∀ n, powR r n = mkRat (r.num ^ n) (r.den ^ n)
 | 0 => by
  rw [Int.pow_zero, Nat.pow_zero]
  rfl
 | n + 1 => by
  show powR r n * r = _
  rw [powR_mk r n, Int.pow_succ, Nat.pow_succ]
  conv => lhs; rw [← Rat.mkRat_self r]
  rw [Rat.mkRat_mul_mkRat]
  simp
theorem rv_pow (r : Rat) (n : Nat) : rv (rneg r && decide (n % 2 = 1)) (r.num.natAbs ^ n) (r.den ^ n) = powR r n := by
 rw [powR_mk, pow_sign]
 unfold rv rneg
 rfl
/-- A power is returned, without an error. -/
def PowPost (r : Rat) (n : Nat) (w : World) (e : Ending) (w' : World) : Prop := ∃ u, e = .returned (.tuple #[u, .int .i64 0]) ∧ RatOk w' w'.heap.size u (powR r n) ∧ Below w.heap.size w w'
set_option maxRecDepth 100000 in
set_option maxHeartbeats 16000000 in
theorem refPow02_any (v : Value) (r : Rat) (N n : Nat) (w : World) (h : RatRaw w w.heap.size v r N) (hN : N ≤ 300) (hr : rsz r N) (hn : n ≤ 12) :
  Calls Tryz.prog 20 #[v, .int .i64 (n : Nat)] w (PowPost r n w) := by
 have hv : ∃ s A n c A2 m c2, v = .agg #[.bool s, .slice A n c, .slice A2 m c2] := by obtain ⟨s, A, n, c, A2, m, c2, x, y, rfl, _⟩ := h; exact ⟨s, A, n, c, A2, m, c2, rfl⟩
 obtain ⟨s, A, l, c, A2, l2, c2, rfl⟩ := hv
 have HR := hid h
 clear h
 obtain ⟨d1, d2⟩ := hr
 have p1 := dl_power' d1 n
 have p2 := dl_power' d2 n
 have hnN : n * N ≤ 12 * 300 := Nat.mul_le_mul hn hN
 have HP1 := hid p1
 have HP2 := hid p2
 clear p1 p2
 have rf := box_row (w := w) (a := .bool s) (b := .slice A l c) (c := .slice A2 l2 c2) (T := 31)
 have hB := below_one w (.cells #[.bool s, .slice A l c, .slice A2 l2 c2] 31)
 have hsz : (w.alloc (.cells #[.bool s, .slice A l c, .slice A2 l2 c2] 31)).heap.size = w.heap.size + 1 := by simp
 obtain ⟨w0, hw0⟩ : ∃ W, W = w.alloc (.cells #[.bool s, .slice A l c, .slice A2 l2 c2] 31) := ⟨_, rfl⟩
 have rm := box_row (w := w0) (a := .bool false) (b := .slice none 0 0) (c := .slice none 0 0) (T := 31)
 have kb := below_one w0 (.cells #[.bool false, .slice none 0 0, .slice none 0 0] 31)
 obtain ⟨w1, hw1⟩ : ∃ W, W = w0.alloc (.cells #[.bool false, .slice none 0 0, .slice none 0 0] 31) := ⟨_, rfl⟩
 rw [← hw0] at hB rf hsz
 rw [← hw1] at rm kb
 rw [hsz] at rm
 replace rf := rowIs_on rf kb
 replace hB := onS hB kb
 go_enter Tryz.func20, Tryz.ntmps20
 go_upto_region 1 with fail
 rw [← hw0, ← hw1]
 clear hw0 hw1 kb hsz
 have q0 : w1.cell? ⟨w.heap.size, 0, none⟩ = some (.bool s) := rf.cell (i := 0) (by omega)
 have q1 : w1.cell? ⟨w.heap.size, 1, none⟩ = some (.slice A l c) := rf.cell (i := 1) (by omega)
 have q2 : w1.cell? ⟨w.heap.size, 2, none⟩ = some (.slice A2 l2 c2) := rf.cell (i := 2) (by omega)
 go_wp2_with fail
 refine (refTrim02_any _ r N w1 (HR.out.on hB) (by omega)).mono ?_
 rintro e w2 ⟨B, b, B2, b2, rfl, m1, m2, m3, m4, m5, m6, kb⟩
 replace rf := rowIs_on rf kb
 replace rm := rowIs_on rm kb
 replace hB := onS hB kb
 clear kb q0 q1 q2
 have r0 := rf.frozen 0
 have r1 := rf.frozen 1
 have r2 := rf.frozen 2
 have s0 : w2.cell? ⟨w.heap.size, 0, none⟩ = some _ := rf.cell (i := 0) (by omega)
 have s1 : w2.cell? ⟨w.heap.size, 1, none⟩ = some _ := rf.cell (i := 1) (by omega)
 have s2 : w2.cell? ⟨w.heap.size, 2, none⟩ = some _ := rf.cell (i := 2) (by omega)
 go_upto_region 2 with fail
 clear r0 r1 r2 s0 s1 s2
 generalize hw9 : World.setCell _ _ _ = w3
 obtain ⟨row9, hg9⟩ := rowIs_put3 rf hw9.symm
 replace m1 := natOk_boxed m1 hg9 rf fun i hi k => ratCell_no i hi k
 replace m2 := natOk_boxed m2 hg9 rf fun i hi k => ratCell_no i hi k
 replace rm := rowIs_grownF rm hg9 (by omega)
 replace hB := hB.grown hg9 hB.size (fun q e => by injection e with e; omega)
 clear hw9 hg9 rf
 obtain ⟨nb, hnb⟩ : ∃ nb, nb = rneg r := ⟨_, rfl⟩
 obtain ⟨o2, ho2⟩ : ∃ o, o = n % 2 := ⟨_, rfl⟩
 have hmod : (n : Int) % 2 = (o2 : Int) := by omega
 obtain ⟨ob, hob⟩ : ∃ ob : Bool, ((o2 : Int) != 0) = ob := ⟨_, rfl⟩
 have hobs : ob = decide (n % 2 = 1) := by
  rw [← hob]
  rcases (show o2 = 0 ∨ o2 = 1 by omega) with e | e
  ·subst e; simp [← ho2]
  ·subst e; simp [← ho2]
 have HOB := hid hobs
 have HNB := hid hnb
 rw [← hnb] at row9
 have hn0 : (0 : Int) ≤ (n : Int) := by omega
 have hneg : ¬ (n : Int) < 0 := by omega
 have hn12 : (n : Int) ≤ 12 := by omega
 clear hobs hnb ho2
 have t1 : w3.cell? ⟨w.heap.size, 1, none⟩ = some (.slice B (dl r.num.natAbs) b) := row9.cell (i := 1) (by omega)
 obtain ⟨k1, hk1⟩ : ∃ k, k = dl r.num.natAbs := ⟨_, rfl⟩
 go_wp2_with fail
 refine (refPow_any B b r.num.natAbs n w3 m1 m3 m4 (by omega) (by omega) (Nat.le_trans HP1.out (by omega))).mono ?_
 rintro e w4 ⟨X, xc, rfl, x1, x2, x3, kb⟩
 replace m2 := m2.on kb
 replace row9 := rowIs_on row9 kb
 replace rm := rowIs_on rm kb
 replace hB := onS hB kb
 clear kb t1 m1 hk1
 have t2 : w4.cell? ⟨w.heap.size, 2, none⟩ = some (.slice B2 (dl r.den) b2) := row9.cell (i := 2) (by omega)
 go_wp2_with fail
 refine (refPow_any B2 b2 r.den n w4 m2 m5 m6 (by omega) (by omega) (Nat.le_trans HP2.out (by omega))).mono ?_
 rintro e w5 ⟨Y, yc, rfl, y1, y2, y3, kb⟩
 replace x3 := x3.on kb
 replace row9 := rowIs_on row9 kb
 replace rm := rowIs_on rm kb
 replace hB := onS hB kb
 clear kb t2 m2
 have t0 : w5.cell? ⟨w.heap.size, 0, none⟩ = some (.bool nb) := row9.cell (i := 0) (by omega)
 have HX1 := hid (Nat.le_trans HP1.out (show 1 + n * N ≤ 134217728 by omega))
 have HX2 := hid (Nat.le_trans HP2.out (show 1 + n * N ≤ 134217728 by omega))
 cases nb
 ·go_wp2_with fail
  refine (refMake_any false X Y _ xc _ yc _ _ w5 x3.raw y3.raw x1 x2 y1 y2 HX1.out HX2.out).mono ?_
  rintro e w6 ⟨Z, zc, Z2, zc2, rfl, z1, z2, z3, z4, z5, z6, kb⟩
  have hrv : rv false (r.num.natAbs ^ n) (r.den ^ n) = powR r n := by
   rw [← rv_pow, ← HNB.out, ← HOB.out]
   rfl
  rw [hrv] at z1 z2 z3 z5 ⊢
  replace rm := rowIs_on rm kb
  replace hB := onS hB kb
  clear kb t0 x3 y3 hrv row9
  have r0 := rm.frozen 0
  have r1 := rm.frozen 1
  have r2 := rm.frozen 2
  have s0 : w6.cell? ⟨w.heap.size + 1, 0, none⟩ = some _ := rm.cell (i := 0) (by omega)
  have s1 : w6.cell? ⟨w.heap.size + 1, 1, none⟩ = some _ := rm.cell (i := 1) (by omega)
  have s2 : w6.cell? ⟨w.heap.size + 1, 2, none⟩ = some _ := rm.cell (i := 2) (by omega)
  go_wp2
  clear r0 r1 r2 s0 s1 s2
  generalize hw9 : World.setCell _ _ _ = w7
  obtain ⟨row9, hg9⟩ := rowIs_put3 rm hw9.symm
  have u1 := natOk_boxed z1 hg9 rm fun i hi k => ratCell_no i hi k
  have u2 := natOk_boxed z2 hg9 rm fun i hi k => ratCell_no i hi k
  replace hB := hB.grown hg9 hB.size (fun q e => by injection e with e; omega)
  clear hw9 hg9 rm z1 z2
  have e0 : w7.cell? ⟨w.heap.size + 1, 0, none⟩ = some (.bool (rneg (powR r n))) := row9.cell (i := 0) (by omega)
  have e1 : w7.cell? ⟨w.heap.size + 1, 1, none⟩ = some (.slice Z (dl (powR r n).num.natAbs) zc) := row9.cell (i := 1) (by omega)
  have e2 : w7.cell? ⟨w.heap.size + 1, 2, none⟩ = some (.slice Z2 (dl (powR r n).den) zc2) := row9.cell (i := 2) (by omega)
  refine bodyPost_ret (v := .tuple #[.agg #[.bool (rneg (powR r n)), .slice Z (dl (powR r n).num.natAbs) zc, .slice Z2 (dl (powR r n).den) zc2], .int .i64 0]) (by simp [results, Tryz.results20, go_sem, e0, e1, e2]) rfl ?_
  exact ⟨_, rfl, ⟨Z, zc, Z2, zc2, rfl, u1, u2, z3, z4, z5, z6⟩, hB⟩
 ·go_wp2_with fail
  refine (refMake_any ob X Y _ xc _ yc _ _ w5 x3.raw y3.raw x1 x2 y1 y2 HX1.out HX2.out).mono ?_
  rintro e w6 ⟨Z, zc, Z2, zc2, rfl, z1, z2, z3, z4, z5, z6, kb⟩
  have hrv : rv ob (r.num.natAbs ^ n) (r.den ^ n) = powR r n := by
   rw [← rv_pow, ← HNB.out, ← HOB.out]
   rfl
  rw [hrv] at z1 z2 z3 z5 ⊢
  replace rm := rowIs_on rm kb
  replace hB := onS hB kb
  clear kb t0 x3 y3 hrv row9
  have r0 := rm.frozen 0
  have r1 := rm.frozen 1
  have r2 := rm.frozen 2
  have s0 : w6.cell? ⟨w.heap.size + 1, 0, none⟩ = some _ := rm.cell (i := 0) (by omega)
  have s1 : w6.cell? ⟨w.heap.size + 1, 1, none⟩ = some _ := rm.cell (i := 1) (by omega)
  have s2 : w6.cell? ⟨w.heap.size + 1, 2, none⟩ = some _ := rm.cell (i := 2) (by omega)
  go_wp2
  clear r0 r1 r2 s0 s1 s2
  generalize hw9 : World.setCell _ _ _ = w7
  obtain ⟨row9, hg9⟩ := rowIs_put3 rm hw9.symm
  have u1 := natOk_boxed z1 hg9 rm fun i hi k => ratCell_no i hi k
  have u2 := natOk_boxed z2 hg9 rm fun i hi k => ratCell_no i hi k
  replace hB := hB.grown hg9 hB.size (fun q e => by injection e with e; omega)
  clear hw9 hg9 rm z1 z2
  have e0 : w7.cell? ⟨w.heap.size + 1, 0, none⟩ = some (.bool (rneg (powR r n))) := row9.cell (i := 0) (by omega)
  have e1 : w7.cell? ⟨w.heap.size + 1, 1, none⟩ = some (.slice Z (dl (powR r n).num.natAbs) zc) := row9.cell (i := 1) (by omega)
  have e2 : w7.cell? ⟨w.heap.size + 1, 2, none⟩ = some (.slice Z2 (dl (powR r n).den) zc2) := row9.cell (i := 2) (by omega)
  refine bodyPost_ret (v := .tuple #[.agg #[.bool (rneg (powR r n)), .slice Z (dl (powR r n).num.natAbs) zc, .slice Z2 (dl (powR r n).den) zc2], .int .i64 0]) (by simp [results, Tryz.results20, go_sem, e0, e1, e2]) rfl ?_
  exact ⟨_, rfl, ⟨Z, zc, Z2, zc2, rfl, u1, u2, z3, z4, z5, z6⟩, hB⟩
end Go.Proofs.YtmgeblpnnaamnaaGreat