/- Merged texts of a claim: DualLaw. -/
import Derived.Test.YtmgeblpnnaamnaaGreatTD12
import Derived.Test.YtmgeblpnnaamnaaGreatTD13
import Derived.Deep.DeepCutAuto
namespace Go.Proofs.YtmgeblpnnaamnaaGreat
open Go.RowKit Go.ChangeShapes Go.WideShapes Go.ChangeAt
/-- A box holds the fraction. -/
def RatBox (w : World) (g : Nat) (T : TypeId) (r : Rat) : Prop :=
 ∃ A c A2 c2, w.rowIs g T 3 (ratCell (.bool (rneg r)) (.slice A (dl r.num.natAbs) c) (.slice A2 (dl r.den) c2)) ∧ NatOk w w.heap.size A r.num.natAbs ∧ NatOk w w.heap.size A2 r.den ∧ dl r.num.natAbs ≤ c ∧ c ≤ maxLen ∧ dl r.den ≤ c2 ∧ c2 ≤ maxLen
set_option maxRecDepth 100000 in
set_option maxHeartbeats 32000000 in
theorem channelDual_any (P M : Int) (A : Option Addr) (k c : Nat) (N : Int) (T : Option Addr) (n d : Nat) (f : Nat → Int) (ln : Nat → Nat) (V : Nat → Nat → Int) (s : Bool) (XA : Option Addr) (xl xc : Nat) (XB : Option Addr) (yl yc : Nat) (p : Rat) (w : World)
  (hr : IntsR w w.heap.size A k f) (h : IntRows w T n ln V) (hp : ∀ L, xl ≤ L → yl ≤ L → RatRaw w w.heap.size (.agg #[.bool s, .slice XA xl xc, .slice XB yl yc]) p L) :
  Calls Tryz.prog 3 #[.agg #[.int .i64 P, .int .i64 M, .slice A k c, .int .i64 N, .slice T n d], .agg #[.bool s, .slice XA xl xc, .slice XB yl yc]] w fun e w' => e = .returned (.bool true) ∧ Below w.heap.size w w' := by
 have HT := hid h
 have HR := hid hr
 have HP := hid hp
 clear h hr hp
 have rf := codBox_row (w := w) (a := .int .i64 P) (b := .int .i64 M) (c := .slice A k c) (d := .int .i64 N) (e := .slice T n d) (T := 27)
 have hB : Below w.heap.size w (w.alloc (.cells #[.int .i64 P, .int .i64 M, .slice A k c, .int .i64 N, .slice T n d] 27)) := (Below.refl _ _).alloc (Nat.le_refl _) _
 have hsz : (w.alloc (.cells #[.int .i64 P, .int .i64 M, .slice A k c, .int .i64 N, .slice T n d] 27)).heap.size = w.heap.size + 1 := by simp
 obtain ⟨w0, hw0⟩ : ∃ W, W = w.alloc (.cells #[.int .i64 P, .int .i64 M, .slice A k c, .int .i64 N, .slice T n d] 27) := ⟨_, rfl⟩
 have rp := box_row (w := w0) (a := .bool s) (b := .slice XA xl xc) (c := .slice XB yl yc) (T := 31)
 have kb := below_one w0 (.cells #[.bool s, .slice XA xl xc, .slice XB yl yc] 31)
 obtain ⟨w1, hw1⟩ : ∃ W, W = w0.alloc (.cells #[.bool s, .slice XA xl xc, .slice XB yl yc] 31) := ⟨_, rfl⟩
 rw [← hw0] at hB rf hsz
 rw [← hw1] at rp kb
 rw [hsz] at rp
 replace rf := rowIs_on rf kb
 replace hB := onS hB kb
 go_enter Tryz.func3, Tryz.ntmps3
 go_upto_region 1 with fail
 rw [← hw0, ← hw1]
 clear hw0 hw1 kb hsz
 have q0 : w1.cell? ⟨w.heap.size, 0, none⟩ = some (.int .i64 P) := rf.cell (i := 0) (by omega)
 have q1 : w1.cell? ⟨w.heap.size, 1, none⟩ = some (.int .i64 M) := rf.cell (i := 1) (by omega)
 have q2 : w1.cell? ⟨w.heap.size, 2, none⟩ = some (.slice A k c) := rf.cell (i := 2) (by omega)
 have q3 : w1.cell? ⟨w.heap.size, 3, none⟩ = some (.int .i64 N) := rf.cell (i := 3) (by omega)
 have q4 : w1.cell? ⟨w.heap.size, 4, none⟩ = some (.slice T n d) := rf.cell (i := 4) (by omega)
 have p0 : w1.cell? ⟨w.heap.size + 1, 0, none⟩ = some (.bool s) := rp.cell (i := 0) (by omega)
 have p1 : w1.cell? ⟨w.heap.size + 1, 1, none⟩ = some (.slice XA xl xc) := rp.cell (i := 1) (by omega)
 have p2 : w1.cell? ⟨w.heap.size + 1, 2, none⟩ = some (.slice XB yl yc) := rp.cell (i := 2) (by omega)
 by_cases hN12 : N > 12
 ·go_wp2
  go_ret
  exact ⟨rfl, hB⟩
 obtain ⟨sv, hsv⟩ : ∃ sv, (decide (xl ≤ 4) && decide (yl ≤ 4)) = sv := ⟨_, rfl⟩
 have HSV := hid hsv
 clear hsv
 go_wp2_with fail
 refine (lawShort_is sv s XA XB xl xc yl yc w1 HSV).mono ?_
 rintro e w2 ⟨rfl, kb⟩
 replace rf := rowIs_on rf kb
 replace rp := rowIs_on rp kb
 replace hB := onS hB kb
 clear kb q0 q1 q2 q3 q4 p0 p1 p2
 cases sv
 ·go_wp2
  go_ret
  exact ⟨rfl, hB⟩
 have hsh : xl ≤ 4 ∧ yl ≤ 4 := by have := HSV.out; simpa using this
 have HPR := hid (HP.out 4 hsh.1 hsh.2)
 clear hsh HSV HP
 have q0 : w2.cell? ⟨w.heap.size, 0, none⟩ = some (.int .i64 P) := rf.cell (i := 0) (by omega)
 have q1 : w2.cell? ⟨w.heap.size, 1, none⟩ = some (.int .i64 M) := rf.cell (i := 1) (by omega)
 have q2 : w2.cell? ⟨w.heap.size, 2, none⟩ = some (.slice A k c) := rf.cell (i := 2) (by omega)
 have q3 : w2.cell? ⟨w.heap.size, 3, none⟩ = some (.int .i64 N) := rf.cell (i := 3) (by omega)
 have q4 : w2.cell? ⟨w.heap.size, 4, none⟩ = some (.slice T n d) := rf.cell (i := 4) (by omega)
 go_wp2_with fail
 refine (count12_any 1024 P M A k c f N T n d ln V w2 (HR.out.on hB) (HT.out.on hB) (by omega)).mono ?_
 rintro e w3 ⟨v, rfl, hv, kb⟩
 replace rf := rowIs_on rf kb
 replace rp := rowIs_on rp kb
 replace hB := onS hB kb
 clear kb q0 q1 q2 q3 q4
 rcases hv with ⟨rfl, _⟩ | ⟨hcok, hcnt, hv⟩
 ·go_wp2
  go_ret
  exact ⟨rfl, hB⟩
 obtain ⟨P, M, N, rfl, rfl, rfl, hC⟩ := codeR_of HR.out HT.out hcok
 rw [Int.toNat_natCast, Int.toNat_natCast] at hcnt hv
 have HC := hid hC
 have hLL := fieldLaws hC.fld
 have hq2 := hLL.two
 have hq256 := hC.fld.1.2.2.2
 have hP0 : 0 < P := by have := hC.fld.1.1; omega
 have HFO := hid hC.fld.1
 have hN1 := hC.ln1
 have hn64 := hC.n_le
 clear hC hcok HT HR
 have hvp : v ≠ 0 := by
  rw [hv]
  have := Nat.pow_pos (n := n) (show 0 < P ^ M by omega)
  omega
 have hvz : (v == 0) = false := by simpa using hvp
 clear hv hvp
 obtain ⟨V', hV'⟩ : ∃ V', V' = natT V := ⟨_, rfl⟩
 obtain ⟨m, hm⟩ : ∃ m : Nat → Nat, m = fun i => (f i).toNat := ⟨_, rfl⟩
 rw [← hV', ← hm] at HC
 rw [← hm] at hLL
 clear hV' hm
 have q0 : w3.cell? ⟨w.heap.size, 0, none⟩ = some (.int .i64 (P : Nat)) := rf.cell (i := 0) (by omega)
 have q1 : w3.cell? ⟨w.heap.size, 1, none⟩ = some (.int .i64 (M : Nat)) := rf.cell (i := 1) (by omega)
 have q2 : w3.cell? ⟨w.heap.size, 2, none⟩ = some (.slice A k c) := rf.cell (i := 2) (by omega)
 have q3 : w3.cell? ⟨w.heap.size, 3, none⟩ = some (.int .i64 (N : Nat)) := rf.cell (i := 3) (by omega)
 have q4 : w3.cell? ⟨w.heap.size, 4, none⟩ = some (.slice T n d) := rf.cell (i := 4) (by omega)
 have h3 := HC.out.on hB
 go_wp2_with fail
 refine (dual12_any P M m A k c N T n d V' w3 h3).mono ?_
 rintro e w4 ⟨mv, lv, a2, W2, rfl, hmv, hlv, kb, hrel⟩
 replace rf := rowIs_on rf kb
 replace rp := rowIs_on rp kb
 have hB3 := hB.size
 replace hB := onS hB kb
 have HREL := hid hrel
 clear kb q0 q1 q2 q3 q4 h3 hrel
 obtain ⟨DA, dc, hsh⟩ := hmv.shape
 subst hsh
 obtain ⟨LA, lc, hsh⟩ := hlv.shape
 subst hsh
 have kb := below_one w4 (.cells #[.int .i64 (P : Nat), .int .i64 (M : Nat), .slice DA k dc, .int .i64 (N : Nat), .slice LA a2 lc] 27)
 have r5 := codBox_row (w := w4) (a := .int .i64 (P : Nat)) (b := .int .i64 (M : Nat)) (c := .slice DA k dc) (d := .int .i64 (N : Nat)) (e := .slice LA a2 lc) (T := 27)
 have hlt2 : ∀ i, i < a2 → ∀ j, j < N → W2 i j < P ^ M := by
  obtain ⟨p2, hp2⟩ := HREL.out.rref
  exact hp2.lt
 have hC4 : CodeR w4 P M m DA k N LA a2 W2 := ⟨HC.out.fld, Own.rd hmv rfl, HC.out.kM, HC.out.ln1, HC.out.ln2, hlv.rd hq256 hlt2, hlt2, HREL.out.rref⟩
 have HC5 := hid (hC4.on kb)
 have hwg : w.heap.size + 1 < w4.heap.size := rp.lt
 replace rf := rowIs_on rf kb
 replace rp := rowIs_on rp kb
 replace hB := onS hB kb
 clear hmv hlv hC4 hlt2
 obtain ⟨w5, hw5⟩ : ∃ W, W = w4.alloc (.cells #[.int .i64 (P : Nat), .int .i64 (M : Nat), .slice DA k dc, .int .i64 (N : Nat), .slice LA a2 lc] 27) := ⟨_, rfl⟩
 rw [← hw5] at kb r5 HC5 rf rp hB
 obtain ⟨g5, hg5⟩ : ∃ g, g = w4.heap.size := ⟨_, rfl⟩
 rw [← hg5] at r5 hwg kb
 clear kb
 go_upto_region 4 with fail
 rw [← hg5, ← hw5]
 clear hg5 hw5 hB3
 have q0 : w5.cell? ⟨g5, 0, none⟩ = some (.int .i64 (P : Nat)) := r5.cell (i := 0) (by omega)
 have q1 : w5.cell? ⟨g5, 1, none⟩ = some (.int .i64 (M : Nat)) := r5.cell (i := 1) (by omega)
 have q2 : w5.cell? ⟨g5, 2, none⟩ = some (.slice DA k dc) := r5.cell (i := 2) (by omega)
 have q3 : w5.cell? ⟨g5, 3, none⟩ = some (.int .i64 (N : Nat)) := r5.cell (i := 3) (by omega)
 have q4 : w5.cell? ⟨g5, 4, none⟩ = some (.slice LA a2 lc) := r5.cell (i := 4) (by omega)
 have hD5 : Below w5.heap.size w5 w5 := Below.refl _ _
 go_wp2_with fail
 refine (count12_any 1024 (P : Int) (M : Int) DA k dc _ (N : Int) LA a2 lc _ _ w5 HC5.out.ints HC5.out.rows (by omega)).mono ?_
 rintro e w6 ⟨v2, rfl, hv2, kb⟩
 replace rf := rowIs_on rf kb
 replace rp := rowIs_on rp kb
 replace r5 := rowIs_on r5 kb
 replace hB := onS hB kb
 replace hD5 := onS hD5 kb
 clear kb q0 q1 q2 q3 q4
 rcases hv2 with ⟨rfl, _⟩ | ⟨_, hcnt2, hv2⟩
 ·go_wp2
  go_ret
  exact ⟨rfl, hB⟩
 rw [Int.toNat_natCast, Int.toNat_natCast] at hcnt2 hv2
 have hv2z : (v2 == 0) = false := by
  have : v2 ≠ 0 := by
   rw [hv2]
   have := Nat.pow_pos (n := a2) (show 0 < P ^ M by omega)
   omega
  simpa using this
 clear hv2
 have hN12' : (N : Int) ≤ 12 := by omega
 have q0 : w6.cell? ⟨w.heap.size, 0, none⟩ = some (.int .i64 (P : Nat)) := rf.cell (i := 0) (by omega)
 have q1 : w6.cell? ⟨w.heap.size, 1, none⟩ = some (.int .i64 (M : Nat)) := rf.cell (i := 1) (by omega)
 have q2 : w6.cell? ⟨w.heap.size, 2, none⟩ = some (.slice A k c) := rf.cell (i := 2) (by omega)
 have q3 : w6.cell? ⟨w.heap.size, 3, none⟩ = some (.int .i64 (N : Nat)) := rf.cell (i := 3) (by omega)
 have q4 : w6.cell? ⟨w.heap.size, 4, none⟩ = some (.slice T n d) := rf.cell (i := 4) (by omega)
 go_wp2_with fail
 refine (words12_any P M m A k c N T n d V' w6 (HC.out.on hB) (Nat.le_trans hcnt (by omega))).mono ?_
 rintro e w7 ⟨lv7, rfl, hlv7, kb⟩
 obtain ⟨WA, wc, hsh⟩ := hlv7.shape
 subst hsh
 have hR7 : IntRows w7 WA ((P ^ M) ^ n) (fun _ => N) (wordsI (P ^ M) (addF P M) (mulF P M m) n V') := hlv7.rd hq256 fun i _ j _ => spE_lt hLL _ _ _
 replace rf := rowIs_on rf kb
 replace rp := rowIs_on rp kb
 replace r5 := rowIs_on r5 kb
 replace hB := onS hB kb
 replace hD5 := onS hD5 kb
 clear kb q0 q1 q2 q3 q4 hlv7
 have q0 : w7.cell? ⟨g5, 0, none⟩ = some (.int .i64 (P : Nat)) := r5.cell (i := 0) (by omega)
 have q1 : w7.cell? ⟨g5, 1, none⟩ = some (.int .i64 (M : Nat)) := r5.cell (i := 1) (by omega)
 have q2 : w7.cell? ⟨g5, 2, none⟩ = some (.slice DA k dc) := r5.cell (i := 2) (by omega)
 have q3 : w7.cell? ⟨g5, 3, none⟩ = some (.int .i64 (N : Nat)) := r5.cell (i := 3) (by omega)
 have q4 : w7.cell? ⟨g5, 4, none⟩ = some (.slice LA a2 lc) := r5.cell (i := 4) (by omega)
 go_wp2_with fail
 refine (words12_any P M m DA k dc N LA a2 lc W2 w7 (HC5.out.on hD5) (Nat.le_trans hcnt2 (by omega))).mono ?_
 rintro e w8 ⟨lv8, rfl, hlv8, kb⟩
 obtain ⟨WB, wd, hsh⟩ := hlv8.shape
 subst hsh
 have hR8 : IntRows w8 WB ((P ^ M) ^ a2) (fun _ => N) (wordsI (P ^ M) (addF P M) (mulF P M m) a2 W2) := hlv8.rd hq256 fun i _ j _ => spE_lt hLL _ _ _
 replace hR7 := hR7.on kb
 replace rf := rowIs_on rf kb
 replace rp := rowIs_on rp kb
 replace hB := onS hB kb
 clear kb q0 q1 q2 q3 q4 hlv8 r5 hD5 HC5
 obtain ⟨Q, hQ⟩ : ∃ Q, Q = P ^ M := ⟨_, rfl⟩
 have hEQ : ∀ p : Rat, evR (wtP Q N (zer (wcnt N (wordsI Q (addF P M) (mulF P M m) n V') (Q ^ n))) (N + 1)).2 p (wtP Q N (zer (wcnt N (wordsI Q (addF P M) (mulF P M m) n V') (Q ^ n))) (N + 1)).1 = evR (fun j => ((wcnt N (wordsI Q (addF P M) (mulF P M m) a2 W2) (Q ^ a2) j : Nat) : Rat)) (1 - mkRat (Q : Int) (Q - 1) * p) (N + 1) * mkRat 1 (Q ^ a2) - powR (1 - p) N := by
  rw [hQ]
  exact dual_eq hLL (fun x _ => ⟨negF_lt hP0, addF_negF hP0⟩) HC.out.rref HREL.out
 rw [← hQ] at hR7 hR8 hcnt hcnt2 hq2 hq256
 obtain ⟨L1, hL1⟩ : ∃ L, L = Q ^ n := ⟨_, rfl⟩
 obtain ⟨L2, hL2⟩ : ∃ L, L = Q ^ a2 := ⟨_, rfl⟩
 have hL2p : 0 < L2 := by rw [hL2]; exact Nat.pow_pos (by omega)
 rw [← hL1, ← hL2] at hEQ
 rw [← hL1] at hR7 hcnt
 rw [← hL2] at hR8 hcnt2
 obtain ⟨xs, hxs⟩ : ∃ x, x = wcnt N (wordsI Q (addF P M) (mulF P M m) n V') L1 := ⟨_, rfl⟩
 obtain ⟨ys, hys⟩ : ∃ x, x = wcnt N (wordsI Q (addF P M) (mulF P M m) a2 W2) L2 := ⟨_, rfl⟩
 rw [← hxs, ← hys] at hEQ
 have HEQ := hid (hEQ p)
 have hx8 : ∀ t, xs t ≤ 1024 := fun t => by rw [hxs]; exact Nat.le_trans (wcnt_le _ _ _ _) hcnt
 have hy8 : ∀ t, ys t ≤ 1024 := fun t => by rw [hys]; exact Nat.le_trans (wcnt_le _ _ _ _) hcnt2
 have HX8 := hid (fun t => (dl_le (x := xs t) (n := 1) (Nat.lt_of_le_of_lt (hx8 t) (by decide)) : dl (xs t) ≤ 1))
 have HY8 := hid (fun t => (dl_le (x := ys t) (n := 1) (Nat.lt_of_le_of_lt (hy8 t) (by decide)) : dl (ys t) ≤ 1))
 have HQ := hid hQ
 have HL1 := hid hL1.symm
 have HL2 := hid hL2.symm
 have hxc := hid hxs
 have hyc := hid hys
 clear hEQ hx8 hy8 hQ hL1 hL2 hxs hys
 have q0 : w8.cell? ⟨w.heap.size, 0, none⟩ = some (.int .i64 (P : Nat)) := rf.cell (i := 0) (by omega)
 have q1 : w8.cell? ⟨w.heap.size, 1, none⟩ = some (.int .i64 (M : Nat)) := rf.cell (i := 1) (by omega)
 have q2 : w8.cell? ⟨w.heap.size, 2, none⟩ = some (.slice A k c) := rf.cell (i := 2) (by omega)
 go_wp2_with fail
 refine (order_any (P : Int) (M : Int) A k c w8).mono ?_
 rintro e w9 ⟨rfl, kb⟩
 rw [ordV_ok HFO.out, ← HQ.out]
 replace hR7 := hR7.on kb
 replace hR8 := hR8.on kb
 replace rf := rowIs_on rf kb
 replace rp := rowIs_on rp kb
 replace hB := onS hB kb
 clear kb q0 q1 q2
 have q3 : w9.cell? ⟨w.heap.size, 3, none⟩ = some (.int .i64 (N : Nat)) := rf.cell (i := 3) (by omega)
 go_upto_region 9 with fail
 rw [HL1.out, HL2.out]
 clear HL1 HL2
 go_wp2_with fail
 refine (weights24_any N WA L1 wc _ w9 hR7 (by omega) (by omega)).mono ?_
 rintro e w10 ⟨TA, ca, rfl, a1, a2', aN, kb⟩
 rw [← hxc.out] at aN
 replace hR8 := hR8.on kb
 replace rf := rowIs_on rf kb
 replace rp := rowIs_on rp kb
 replace hB := onS hB kb
 clear kb q3 hR7
 have haN : NatRTab w10 w10.heap.size TA (N + 1) xs 8 := fun i hi => by
  obtain ⟨b, off, A, c, e, h1, h2, h3, h4, h5⟩ := aN i hi
  exact ⟨b, off, A, _, c, e, h1, h2, h5.raw, h3, h4, by have := HX8.out i; omega⟩
 clear aN
 go_wp2_with fail
 refine (undet_ok Q N TA (N + 1) ca xs w10 haN hq2 hq256 (by omega) rfl a1 a2').mono ?_
 rintro e w11 ⟨UA, uc, rfl, u1, u2, u3, kb⟩
 replace hR8 := hR8.on kb
 replace rf := rowIs_on rf kb
 replace rp := rowIs_on rp kb
 replace hB := onS hB kb
 clear kb haN a1 a2'
 have q3 : w11.cell? ⟨w.heap.size, 3, none⟩ = some (.int .i64 (N : Nat)) := rf.cell (i := 3) (by omega)
 go_upto_region 10 with fail
 go_wp2_with fail
 refine (weights24_any N WB L2 wd _ w11 hR8 (by omega) (by omega)).mono ?_
 rintro e w12 ⟨TB, cb, rfl, b1, b2, bN, kb⟩
 rw [← hyc.out] at bN
 replace u3 := u3.on kb
 replace rf := rowIs_on rf kb
 replace rp := rowIs_on rp kb
 replace hB := onS hB kb
 clear kb q3 hR8
 have hul := wtP_len Q N (zer xs) (N + 1)
 have hzx : ∀ t, dl (zer xs t) ≤ 8 := fun t => by
  unfold zer
  split
  ·rw [dl_zero]; omega
  ·have := HX8.out t; omega
 have hur : ∀ i, i < (wtP Q N (zer xs) (N + 1)).1 → rsz ((wtP Q N (zer xs) (N + 1)).2 i) 7000 := rsz_cl2 fun i => (rsz_wt hq2 hq256 (by omega) (fun k _ => hzx k) (N + 1) (Nat.le_refl _) i).mono (by omega)
 clear hzx
 obtain ⟨UL, hUL⟩ : ∃ l, l = (wtP Q N (zer xs) (N + 1)).1 := ⟨_, rfl⟩
 obtain ⟨US, hUS⟩ : ∃ l, l = (wtP Q N (zer xs) (N + 1)).2 := ⟨_, rfl⟩
 rw [← hUL, ← hUS] at HEQ hur u3
 rw [← hUL] at hul u1
 have hUL' := hid hUL
 clear hUL hUS
 go_upto_region 11 with fail
 rw [← hUL'.out]
 clear hUL' hxc hyc
 have hs12 := rp.lt
 have HP10 := hid (HPR.out.mono (show 4 ≤ 10 by omega))
 have hsp : rsz p 4 := RatRaw.rsz HPR.out (by omega)
 have hdq : rsz (mkRat (Q : Int) (Q - 1)) 2 := by
  have := rsz_rv (s := false) (x := Q) (y := Q - 1) (N := 2) (dl_le (by omega)) (dl_le (by omega)) (by omega)
  exact this
 have hof : rv (decide ((Q : Int) < 0) != decide ((Q : Int) - 1 < 0)) (Q : Int).natAbs ((Q : Int) - 1).natAbs = mkRat (Q : Int) (Q - 1) := by
  have e1 : decide ((Q : Int) < 0) = false := by simp
  have e2 : decide ((Q : Int) - 1 < 0) = false := by simp; omega
  have e3 : ((Q : Int) - 1).natAbs = Q - 1 := by omega
  rw [e1, e2, e3]
  rfl
 obtain ⟨mq, hmq⟩ : ∃ z, z = mkRat (Q : Int) (Q - 1) := ⟨_, rfl⟩
 rw [← hmq] at hof hdq HEQ
 clear hmq
 have hsz6 : rsz (mq * p) 6 := (rsz_mul hdq hsp).mono (by omega)
 have hsX : rsz (1 - mq * p) 10 := (rsz_sub rsz_one hsz6).mono (by omega)
 have HOF := hid hof
 have hB12 := hB
 have hD : Below w12.heap.size w12 w12 := Below.refl _ _
 have HB := hid hB12
 clear hof hB hB12
 obtain ⟨zm, hzm⟩ : ∃ z, z = mq * p := ⟨_, rfl⟩
 rw [← hzm] at HEQ hsz6 hsX
 have HZM := hid hzm
 clear hzm
 obtain ⟨X, hX⟩ : ∃ z, z = 1 - zm := ⟨_, rfl⟩
 rw [← hX] at HEQ hsX
 have HXE := hid hX
 clear hX
 have hwq : IntKind.i64.wrap ((Q : Int) - 1) = (Q : Int) - 1 := by
  have h1 : (2 : Int) ≤ (Q : Int) := by omega
  have h2 : (Q : Int) ≤ 256 := by omega
  simp [IntKind.wrap, IntKind.bits, IntKind.signed]
  omega
 go_cut [15] (fun v15 wx => ∃ g, v15 = .pointer (some ⟨g, 0, none⟩) ∧ w12.heap.size ≤ g ∧ RatBox wx g 31 X ∧ wx.rowIs w.heap.size 27 5 (codCell (.int .i64 (P : Nat)) (.int .i64 (M : Nat)) (.slice A k c) (.int .i64 (N : Nat)) (.slice T n d)) ∧ wx.rowIs (w.heap.size + 1) 31 3 (ratCell (.bool s) (.slice XA xl xc) (.slice XB yl yc)) ∧ Below w12.heap.size w12 wx)
 case first =>
  have HS : Hid (∀ w' : World, w'.rowIs (w.heap.size + 1) 31 3 (ratCell (.bool (s)) (.slice (XA) (xl) (xc)) (.slice (XB) (yl) (yc))) → w'.cell? ⟨w.heap.size + 1, 0, none⟩ = some (.bool (s)) ∧ w'.cell? ⟨w.heap.size + 1, 1, none⟩ = some (.slice (XA) (xl) (xc)) ∧ w'.cell? ⟨w.heap.size + 1, 2, none⟩ = some (.slice (XB) (yl) (yc))) := fun w' h0 => ⟨h0.cell (i := 0) (by omega), h0.cell (i := 1) (by omega), h0.cell (i := 2) (by omega)⟩
  refine wp_region_held_drew (S := fun w' => w'.cell? ⟨w.heap.size + 1, 0, none⟩ = some (.bool (s)) ∧ w'.cell? ⟨w.heap.size + 1, 1, none⟩ = some (.slice (XA) (xl) (xc)) ∧ w'.cell? ⟨w.heap.size + 1, 2, none⟩ = some (.slice (XB) (yl) (yc))) (by kernel_rfl) (HS.out _ (show World.rowIs (World.drew _) _ _ _ _ from rp)) (fun hHeld => ?_)
  obtain ⟨w13, hw⟩ : ∃ W, W = World.drew w12 := ⟨_, rfl⟩
  have kb : Below w12.heap.size w12 w13 := by rw [hw]; exact (Below.refl _ _).drew
  rw [← hw] at hHeld ⊢
  clear hw
  replace rf := rowIs_on rf kb
  replace rp := rowIs_on rp kb
  replace hD := onS hD kb
  clear kb
  refine tkq 1 (h := tkq 2 (h := tkq 3 (h := tkq 5 (h := ?_))))
  refine rdq2 0 8 (h := fun K hK => ?_) (h2 := fun K hK => ?_)
  ·go_simp
   go_wp2_with fail
   refine (refInt_any 1 _ (by omega) (by omega)).mono ?_
   rintro e w14 ⟨Ae, ce, Be, de, rfl, me1, me2, me3, me4, me5, me6, kb⟩
   replace rf := rowIs_on rf kb
   replace rp := rowIs_on rp kb
   replace hD := onS hD kb
   clear kb
   obtain ⟨q1, hq⟩ : ∃ q : Rat, q = ((1 : Int) : Rat) := ⟨_, rfl⟩
   rw [← hq] at me1 me2 me3 me5 ⊢
   have HQ1 := hid hq
   clear hq
   have hsq1 : rsz q1 10 := by rw [HQ1.out]; exact ⟨by decide +kernel, by decide +kernel⟩
   refine bkq hK (HS.out _ rp) (h := fun hHeld => ?_)
   clear hK K
   refine rdq2 4 8 (h := fun K hK => ?_) (h2 := fun K hK => ?_)
   ·go_simp
    go_wp2_with fail
    refine (refOf02_any (Q : Int) ((Q : Int) - 1) _ (by omega) (by omega) (by omega) (by omega)).mono ?_
    rintro e w15 ⟨Af, cf, Bf, df, rfl, mf1, mf2, mf3, mf4, mf5, mf6, kb⟩
    replace me1 := me1.on kb
    replace me2 := me2.on kb
    replace rf := rowIs_on rf kb
    replace rp := rowIs_on rp kb
    replace hD := onS hD kb
    clear kb
    rw [HOF.out] at mf1 mf2 mf3 mf5 ⊢
    refine bkq hK (HS.out _ rp) (h := fun hHeld => ?_)
    clear hK K
    refine rdq2 6 8 (h := fun K hK => ?_) (h2 := fun K hK => ?_)
    ·go_simp
     go_wp2_with fail
     refine (refMul02_any _ _ mq p 10 _ (ratPost_raw mf1 mf2 mf3 mf4 mf5 mf6 (hdq.mono (by omega))) (HP10.out.on (onS HB.out hD)) (by omega) (hdq.mono (by omega)) (hsp.mono (by omega))).mono ?_
     rintro e w16 ⟨Ag, cg, Bg, dg, rfl, mg1, mg2, mg3, mg4, mg5, mg6, kb⟩
     replace me1 := me1.on kb
     replace me2 := me2.on kb
     replace mf1 := mf1.on kb
     replace mf2 := mf2.on kb
     replace rf := rowIs_on rf kb
     replace rp := rowIs_on rp kb
     replace hD := onS hD kb
     clear kb
     rw [← HZM.out] at mg1 mg2 mg3 mg5 ⊢
     clear mf1 mf2 mf3 mf4 mf5 mf6
     refine bkq hK (HS.out _ rp) (h := fun hHeld => ?_)
     clear hK K
     refine rdq2 7 8 (h := fun K hK => ?_) (h2 := fun K hK => ?_)
     ·go_simp
      go_wp2_with fail
      refine (refSub02_any _ _ q1 zm 10 _ (ratPost_raw me1 me2 me3 me4 me5 me6 hsq1) (ratPost_raw mg1 mg2 mg3 mg4 mg5 mg6 (hsz6.mono (by omega))) (by omega) hsq1 (hsz6.mono (by omega))).mono ?_
      rintro e w17 ⟨Ah, ch, Bh, dh, rfl, mh1, mh2, mh3, mh4, mh5, mh6, kb⟩
      replace me1 := me1.on kb
      replace me2 := me2.on kb
      replace mg1 := mg1.on kb
      replace mg2 := mg2.on kb
      replace rf := rowIs_on rf kb
      replace rp := rowIs_on rp kb
      replace hD := onS hD kb
      clear kb
      have hxx : q1 - zm = X := by rw [HQ1.out, HXE.out]; rfl
      rw [hxx] at mh1 mh2 mh3 mh5 ⊢
      clear hxx
      clear me1 me2 me3 me4 me5 me6
      clear mg1 mg2 mg3 mg4 mg5 mg6
      refine bkq hK (HS.out _ rp) (h := fun hHeld => ?_)
      clear hK K
      refine rdq 8 (h := fun K hK => ?_)
      go_simp
      have kb := below_one w17 (.cells #[.bool false, .slice none 0 0, .slice none 0 0] 31)
      have r15 := box_row (w := w17) (a := .bool false) (b := .slice none 0 0) (c := .slice none 0 0) (T := 31)
      have hg15 := hD.size
      have hl15rf := rf.lt
      have hl15rp := rp.lt
      replace mh1 := mh1.on kb
      replace mh2 := mh2.on kb
      replace rf := rowIs_on rf kb
      replace rp := rowIs_on rp kb
      replace hD := onS hD kb
      clear kb
      obtain ⟨w18, hww⟩ : ∃ W, W = World.alloc w17 (.cells #[.bool false, .slice none 0 0, .slice none 0 0] 31) := ⟨_, rfl⟩
      rw [← hww] at rf rp hD mh1 mh2 r15 ⊢
      obtain ⟨g15, hgg⟩ : ∃ g, g = w17.heap.size := ⟨_, rfl⟩
      rw [← hgg] at r15 hg15 hl15rf hl15rp ⊢
      clear hww hgg
      refine bkq hK (HS.out _ rp) (h := fun hHeld => ?_)
      clear hK K
      refine rdq 9 (h := fun K hK => ?_)
      have hsz := hD.size
      have za0 := r15.frozen 0
      have za1 := r15.frozen 1
      have za2 := r15.frozen 2
      have ya0 : w18.cell? ⟨g15, 0, none⟩ = some _ := r15.cell (i := 0) (by omega)
      have ya1 : w18.cell? ⟨g15, 1, none⟩ = some _ := r15.cell (i := 1) (by omega)
      have ya2 : w18.cell? ⟨g15, 2, none⟩ = some _ := r15.cell (i := 2) (by omega)
      go_simp
      generalize hw3 : World.setCell _ _ _ = w19
      have hst : RatStored w18 (g15) 31 (rneg X) (Ah) (dl X.num.natAbs) (ch) (Bh) (dl X.den) (dh) w19 := by rw [← hw3]; exact rat_stored r15 _ _ _ _ _ _ _
      clear hw3
      replace rf := rowIs_grown rf hst.grown (by omega)
      replace rp := rowIs_grown rp hst.grown (by omega)
      replace hD := hst.below hD (by omega) (by omega)
      replace mh1 := hst.nat _ _ _ mh1
      rw [← hst.size] at mh1
      replace mh2 := hst.nat _ _ _ mh2
      rw [← hst.size] at mh2
      replace r15 := hst.row
      clear hst
      clear hsz za0 za1 za2 ya0 ya1 ya2
      refine bkq hK (HS.out _ rp) (h := fun hHeld => ?_)
      clear hK K
      refine wpAnyH_done (by kernel_rfl) ?_ _
      clear hHeld
      go_wp2
      go_meet
      exact ⟨g15, rfl, hg15, ⟨Ah, ch, Bh, dh, r15, mh1, mh2, mh3, mh4, mh5, mh6⟩, rf, rp, hD⟩
     ·go_simp
      have kb := below_one w16 (.cells #[.bool false, .slice none 0 0, .slice none 0 0] 31)
      have r15 := box_row (w := w16) (a := .bool false) (b := .slice none 0 0) (c := .slice none 0 0) (T := 31)
      have hg15 := hD.size
      have hl15rf := rf.lt
      have hl15rp := rp.lt
      replace me1 := me1.on kb
      replace me2 := me2.on kb
      replace mg1 := mg1.on kb
      replace mg2 := mg2.on kb
      replace rf := rowIs_on rf kb
      replace rp := rowIs_on rp kb
      replace hD := onS hD kb
      clear kb
      obtain ⟨w17, hww⟩ : ∃ W, W = World.alloc w16 (.cells #[.bool false, .slice none 0 0, .slice none 0 0] 31) := ⟨_, rfl⟩
      rw [← hww] at rf rp hD me1 me2 mg1 mg2 r15 ⊢
      obtain ⟨g15, hgg⟩ : ∃ g, g = w16.heap.size := ⟨_, rfl⟩
      rw [← hgg] at r15 hg15 hl15rf hl15rp ⊢
      clear hww hgg
      refine bkq hK (HS.out _ rp) (h := fun hHeld => ?_)
      clear hK K
      refine rdq 7 (h := fun K hK => ?_)
      go_simp
      go_wp2_with fail
      refine (refSub02_any _ _ q1 zm 10 _ (ratPost_raw me1 me2 me3 me4 me5 me6 hsq1) (ratPost_raw mg1 mg2 mg3 mg4 mg5 mg6 (hsz6.mono (by omega))) (by omega) hsq1 (hsz6.mono (by omega))).mono ?_
      rintro e w18 ⟨Ah, ch, Bh, dh, rfl, mh1, mh2, mh3, mh4, mh5, mh6, kb⟩
      replace me1 := me1.on kb
      replace me2 := me2.on kb
      replace mg1 := mg1.on kb
      replace mg2 := mg2.on kb
      replace rf := rowIs_on rf kb
      replace rp := rowIs_on rp kb
      replace r15 := rowIs_on r15 kb
      replace hD := onS hD kb
      clear kb
      have hxx : q1 - zm = X := by rw [HQ1.out, HXE.out]; rfl
      rw [hxx] at mh1 mh2 mh3 mh5 ⊢
      clear hxx
      clear me1 me2 me3 me4 me5 me6
      clear mg1 mg2 mg3 mg4 mg5 mg6
      refine bkq hK (HS.out _ rp) (h := fun hHeld => ?_)
      clear hK K
      refine rdq 9 (h := fun K hK => ?_)
      have hsz := hD.size
      have za0 := r15.frozen 0
      have za1 := r15.frozen 1
      have za2 := r15.frozen 2
      have ya0 : w18.cell? ⟨g15, 0, none⟩ = some _ := r15.cell (i := 0) (by omega)
      have ya1 : w18.cell? ⟨g15, 1, none⟩ = some _ := r15.cell (i := 1) (by omega)
      have ya2 : w18.cell? ⟨g15, 2, none⟩ = some _ := r15.cell (i := 2) (by omega)
      go_simp
      generalize hw3 : World.setCell _ _ _ = w19
      have hst : RatStored w18 (g15) 31 (rneg X) (Ah) (dl X.num.natAbs) (ch) (Bh) (dl X.den) (dh) w19 := by rw [← hw3]; exact rat_stored r15 _ _ _ _ _ _ _
      clear hw3
      replace rf := rowIs_grown rf hst.grown (by omega)
      replace rp := rowIs_grown rp hst.grown (by omega)
      replace hD := hst.below hD (by omega) (by omega)
      replace r15 := hst.row
      replace mh1 := hst.nat _ _ _ mh1
      rw [← hst.size] at mh1
      replace mh2 := hst.nat _ _ _ mh2
      rw [← hst.size] at mh2
      clear hst
      clear hsz za0 za1 za2 ya0 ya1 ya2
      refine bkq hK (HS.out _ rp) (h := fun hHeld => ?_)
      clear hK K
      refine wpAnyH_done (by kernel_rfl) ?_ _
      clear hHeld
      go_wp2
      go_meet
      exact ⟨g15, rfl, hg15, ⟨Ah, ch, Bh, dh, r15, mh1, mh2, mh3, mh4, mh5, mh6⟩, rf, rp, hD⟩
    ·go_simp
     have kb := below_one w15 (.cells #[.bool false, .slice none 0 0, .slice none 0 0] 31)
     have r15 := box_row (w := w15) (a := .bool false) (b := .slice none 0 0) (c := .slice none 0 0) (T := 31)
     have hg15 := hD.size
     have hl15rf := rf.lt
     have hl15rp := rp.lt
     replace me1 := me1.on kb
     replace me2 := me2.on kb
     replace mf1 := mf1.on kb
     replace mf2 := mf2.on kb
     replace rf := rowIs_on rf kb
     replace rp := rowIs_on rp kb
     replace hD := onS hD kb
     clear kb
     obtain ⟨w16, hww⟩ : ∃ W, W = World.alloc w15 (.cells #[.bool false, .slice none 0 0, .slice none 0 0] 31) := ⟨_, rfl⟩
     rw [← hww] at rf rp hD me1 me2 mf1 mf2 r15 ⊢
     obtain ⟨g15, hgg⟩ : ∃ g, g = w15.heap.size := ⟨_, rfl⟩
     rw [← hgg] at r15 hg15 hl15rf hl15rp ⊢
     clear hww hgg
     refine bkq hK (HS.out _ rp) (h := fun hHeld => ?_)
     clear hK K
     refine rdq 6 (h := fun K hK => ?_)
     go_simp
     go_wp2_with fail
     refine (refMul02_any _ _ mq p 10 _ (ratPost_raw mf1 mf2 mf3 mf4 mf5 mf6 (hdq.mono (by omega))) (HP10.out.on (onS HB.out hD)) (by omega) (hdq.mono (by omega)) (hsp.mono (by omega))).mono ?_
     rintro e w17 ⟨Ag, cg, Bg, dg, rfl, mg1, mg2, mg3, mg4, mg5, mg6, kb⟩
     replace me1 := me1.on kb
     replace me2 := me2.on kb
     replace mf1 := mf1.on kb
     replace mf2 := mf2.on kb
     replace rf := rowIs_on rf kb
     replace rp := rowIs_on rp kb
     replace r15 := rowIs_on r15 kb
     replace hD := onS hD kb
     clear kb
     rw [← HZM.out] at mg1 mg2 mg3 mg5 ⊢
     clear mf1 mf2 mf3 mf4 mf5 mf6
     refine bkq hK (HS.out _ rp) (h := fun hHeld => ?_)
     clear hK K
     refine rdq 7 (h := fun K hK => ?_)
     go_simp
     go_wp2_with fail
     refine (refSub02_any _ _ q1 zm 10 _ (ratPost_raw me1 me2 me3 me4 me5 me6 hsq1) (ratPost_raw mg1 mg2 mg3 mg4 mg5 mg6 (hsz6.mono (by omega))) (by omega) hsq1 (hsz6.mono (by omega))).mono ?_
     rintro e w18 ⟨Ah, ch, Bh, dh, rfl, mh1, mh2, mh3, mh4, mh5, mh6, kb⟩
     replace me1 := me1.on kb
     replace me2 := me2.on kb
     replace mg1 := mg1.on kb
     replace mg2 := mg2.on kb
     replace rf := rowIs_on rf kb
     replace rp := rowIs_on rp kb
     replace r15 := rowIs_on r15 kb
     replace hD := onS hD kb
     clear kb
     have hxx : q1 - zm = X := by rw [HQ1.out, HXE.out]; rfl
     rw [hxx] at mh1 mh2 mh3 mh5 ⊢
     clear hxx
     clear me1 me2 me3 me4 me5 me6
     clear mg1 mg2 mg3 mg4 mg5 mg6
     refine bkq hK (HS.out _ rp) (h := fun hHeld => ?_)
     clear hK K
     refine rdq 9 (h := fun K hK => ?_)
     have hsz := hD.size
     have za0 := r15.frozen 0
     have za1 := r15.frozen 1
     have za2 := r15.frozen 2
     have ya0 : w18.cell? ⟨g15, 0, none⟩ = some _ := r15.cell (i := 0) (by omega)
     have ya1 : w18.cell? ⟨g15, 1, none⟩ = some _ := r15.cell (i := 1) (by omega)
     have ya2 : w18.cell? ⟨g15, 2, none⟩ = some _ := r15.cell (i := 2) (by omega)
     go_simp
     generalize hw3 : World.setCell _ _ _ = w19
     have hst : RatStored w18 (g15) 31 (rneg X) (Ah) (dl X.num.natAbs) (ch) (Bh) (dl X.den) (dh) w19 := by rw [← hw3]; exact rat_stored r15 _ _ _ _ _ _ _
     clear hw3
     replace rf := rowIs_grown rf hst.grown (by omega)
     replace rp := rowIs_grown rp hst.grown (by omega)
     replace hD := hst.below hD (by omega) (by omega)
     replace r15 := hst.row
     replace mh1 := hst.nat _ _ _ mh1
     rw [← hst.size] at mh1
     replace mh2 := hst.nat _ _ _ mh2
     rw [← hst.size] at mh2
     clear hst
     clear hsz za0 za1 za2 ya0 ya1 ya2
     refine bkq hK (HS.out _ rp) (h := fun hHeld => ?_)
     clear hK K
     refine wpAnyH_done (by kernel_rfl) ?_ _
     clear hHeld
     go_wp2
     go_meet
     exact ⟨g15, rfl, hg15, ⟨Ah, ch, Bh, dh, r15, mh1, mh2, mh3, mh4, mh5, mh6⟩, rf, rp, hD⟩
   ·go_simp
    have kb := below_one w14 (.cells #[.bool false, .slice none 0 0, .slice none 0 0] 31)
    have r15 := box_row (w := w14) (a := .bool false) (b := .slice none 0 0) (c := .slice none 0 0) (T := 31)
    have hg15 := hD.size
    have hl15rf := rf.lt
    have hl15rp := rp.lt
    replace me1 := me1.on kb
    replace me2 := me2.on kb
    replace rf := rowIs_on rf kb
    replace rp := rowIs_on rp kb
    replace hD := onS hD kb
    clear kb
    obtain ⟨w15, hww⟩ : ∃ W, W = World.alloc w14 (.cells #[.bool false, .slice none 0 0, .slice none 0 0] 31) := ⟨_, rfl⟩
    rw [← hww] at rf rp hD me1 me2 r15 ⊢
    obtain ⟨g15, hgg⟩ : ∃ g, g = w14.heap.size := ⟨_, rfl⟩
    rw [← hgg] at r15 hg15 hl15rf hl15rp ⊢
    clear hww hgg
    refine bkq hK (HS.out _ rp) (h := fun hHeld => ?_)
    clear hK K
    refine rdq 4 (h := fun K hK => ?_)
    go_simp
    go_wp2_with fail
    refine (refOf02_any (Q : Int) ((Q : Int) - 1) _ (by omega) (by omega) (by omega) (by omega)).mono ?_
    rintro e w16 ⟨Af, cf, Bf, df, rfl, mf1, mf2, mf3, mf4, mf5, mf6, kb⟩
    replace me1 := me1.on kb
    replace me2 := me2.on kb
    replace rf := rowIs_on rf kb
    replace rp := rowIs_on rp kb
    replace r15 := rowIs_on r15 kb
    replace hD := onS hD kb
    clear kb
    rw [HOF.out] at mf1 mf2 mf3 mf5 ⊢
    refine bkq hK (HS.out _ rp) (h := fun hHeld => ?_)
    clear hK K
    refine rdq 6 (h := fun K hK => ?_)
    go_simp
    go_wp2_with fail
    refine (refMul02_any _ _ mq p 10 _ (ratPost_raw mf1 mf2 mf3 mf4 mf5 mf6 (hdq.mono (by omega))) (HP10.out.on (onS HB.out hD)) (by omega) (hdq.mono (by omega)) (hsp.mono (by omega))).mono ?_
    rintro e w17 ⟨Ag, cg, Bg, dg, rfl, mg1, mg2, mg3, mg4, mg5, mg6, kb⟩
    replace me1 := me1.on kb
    replace me2 := me2.on kb
    replace mf1 := mf1.on kb
    replace mf2 := mf2.on kb
    replace rf := rowIs_on rf kb
    replace rp := rowIs_on rp kb
    replace r15 := rowIs_on r15 kb
    replace hD := onS hD kb
    clear kb
    rw [← HZM.out] at mg1 mg2 mg3 mg5 ⊢
    clear mf1 mf2 mf3 mf4 mf5 mf6
    refine bkq hK (HS.out _ rp) (h := fun hHeld => ?_)
    clear hK K
    refine rdq 7 (h := fun K hK => ?_)
    go_simp
    go_wp2_with fail
    refine (refSub02_any _ _ q1 zm 10 _ (ratPost_raw me1 me2 me3 me4 me5 me6 hsq1) (ratPost_raw mg1 mg2 mg3 mg4 mg5 mg6 (hsz6.mono (by omega))) (by omega) hsq1 (hsz6.mono (by omega))).mono ?_
    rintro e w18 ⟨Ah, ch, Bh, dh, rfl, mh1, mh2, mh3, mh4, mh5, mh6, kb⟩
    replace me1 := me1.on kb
    replace me2 := me2.on kb
    replace mg1 := mg1.on kb
    replace mg2 := mg2.on kb
    replace rf := rowIs_on rf kb
    replace rp := rowIs_on rp kb
    replace r15 := rowIs_on r15 kb
    replace hD := onS hD kb
    clear kb
    have hxx : q1 - zm = X := by rw [HQ1.out, HXE.out]; rfl
    rw [hxx] at mh1 mh2 mh3 mh5 ⊢
    clear hxx
    clear me1 me2 me3 me4 me5 me6
    clear mg1 mg2 mg3 mg4 mg5 mg6
    refine bkq hK (HS.out _ rp) (h := fun hHeld => ?_)
    clear hK K
    refine rdq 9 (h := fun K hK => ?_)
    have hsz := hD.size
    have za0 := r15.frozen 0
    have za1 := r15.frozen 1
    have za2 := r15.frozen 2
    have ya0 : w18.cell? ⟨g15, 0, none⟩ = some _ := r15.cell (i := 0) (by omega)
    have ya1 : w18.cell? ⟨g15, 1, none⟩ = some _ := r15.cell (i := 1) (by omega)
    have ya2 : w18.cell? ⟨g15, 2, none⟩ = some _ := r15.cell (i := 2) (by omega)
    go_simp
    generalize hw3 : World.setCell _ _ _ = w19
    have hst : RatStored w18 (g15) 31 (rneg X) (Ah) (dl X.num.natAbs) (ch) (Bh) (dl X.den) (dh) w19 := by rw [← hw3]; exact rat_stored r15 _ _ _ _ _ _ _
    clear hw3
    replace rf := rowIs_grown rf hst.grown (by omega)
    replace rp := rowIs_grown rp hst.grown (by omega)
    replace hD := hst.below hD (by omega) (by omega)
    replace r15 := hst.row
    replace mh1 := hst.nat _ _ _ mh1
    rw [← hst.size] at mh1
    replace mh2 := hst.nat _ _ _ mh2
    rw [← hst.size] at mh2
    clear hst
    clear hsz za0 za1 za2 ya0 ya1 ya2
    refine bkq hK (HS.out _ rp) (h := fun hHeld => ?_)
    clear hK K
    refine wpAnyH_done (by kernel_rfl) ?_ _
    clear hHeld
    go_wp2
    go_meet
    exact ⟨g15, rfl, hg15, ⟨Ah, ch, Bh, dh, r15, mh1, mh2, mh3, mh4, mh5, mh6⟩, rf, rp, hD⟩
  ·go_simp
   have kb := below_one w13 (.cells #[.bool false, .slice none 0 0, .slice none 0 0] 31)
   have r15 := box_row (w := w13) (a := .bool false) (b := .slice none 0 0) (c := .slice none 0 0) (T := 31)
   have hg15 := hD.size
   have hl15rf := rf.lt
   have hl15rp := rp.lt
   replace rf := rowIs_on rf kb
   replace rp := rowIs_on rp kb
   replace hD := onS hD kb
   clear kb
   obtain ⟨w14, hww⟩ : ∃ W, W = World.alloc w13 (.cells #[.bool false, .slice none 0 0, .slice none 0 0] 31) := ⟨_, rfl⟩
   rw [← hww] at rf rp hD r15 ⊢
   obtain ⟨g15, hgg⟩ : ∃ g, g = w13.heap.size := ⟨_, rfl⟩
   rw [← hgg] at r15 hg15 hl15rf hl15rp ⊢
   clear hww hgg
   refine bkq hK (HS.out _ rp) (h := fun hHeld => ?_)
   clear hK K
   refine rdq 0 (h := fun K hK => ?_)
   go_simp
   go_wp2_with fail
   refine (refInt_any 1 _ (by omega) (by omega)).mono ?_
   rintro e w15 ⟨Ae, ce, Be, de, rfl, me1, me2, me3, me4, me5, me6, kb⟩
   replace rf := rowIs_on rf kb
   replace rp := rowIs_on rp kb
   replace r15 := rowIs_on r15 kb
   replace hD := onS hD kb
   clear kb
   obtain ⟨q1, hq⟩ : ∃ q : Rat, q = ((1 : Int) : Rat) := ⟨_, rfl⟩
   rw [← hq] at me1 me2 me3 me5 ⊢
   have HQ1 := hid hq
   clear hq
   have hsq1 : rsz q1 10 := by rw [HQ1.out]; exact ⟨by decide +kernel, by decide +kernel⟩
   refine bkq hK (HS.out _ rp) (h := fun hHeld => ?_)
   clear hK K
   refine rdq 4 (h := fun K hK => ?_)
   go_simp
   go_wp2_with fail
   refine (refOf02_any (Q : Int) ((Q : Int) - 1) _ (by omega) (by omega) (by omega) (by omega)).mono ?_
   rintro e w16 ⟨Af, cf, Bf, df, rfl, mf1, mf2, mf3, mf4, mf5, mf6, kb⟩
   replace me1 := me1.on kb
   replace me2 := me2.on kb
   replace rf := rowIs_on rf kb
   replace rp := rowIs_on rp kb
   replace r15 := rowIs_on r15 kb
   replace hD := onS hD kb
   clear kb
   rw [HOF.out] at mf1 mf2 mf3 mf5 ⊢
   refine bkq hK (HS.out _ rp) (h := fun hHeld => ?_)
   clear hK K
   refine rdq 6 (h := fun K hK => ?_)
   go_simp
   go_wp2_with fail
   refine (refMul02_any _ _ mq p 10 _ (ratPost_raw mf1 mf2 mf3 mf4 mf5 mf6 (hdq.mono (by omega))) (HP10.out.on (onS HB.out hD)) (by omega) (hdq.mono (by omega)) (hsp.mono (by omega))).mono ?_
   rintro e w17 ⟨Ag, cg, Bg, dg, rfl, mg1, mg2, mg3, mg4, mg5, mg6, kb⟩
   replace me1 := me1.on kb
   replace me2 := me2.on kb
   replace mf1 := mf1.on kb
   replace mf2 := mf2.on kb
   replace rf := rowIs_on rf kb
   replace rp := rowIs_on rp kb
   replace r15 := rowIs_on r15 kb
   replace hD := onS hD kb
   clear kb
   rw [← HZM.out] at mg1 mg2 mg3 mg5 ⊢
   clear mf1 mf2 mf3 mf4 mf5 mf6
   refine bkq hK (HS.out _ rp) (h := fun hHeld => ?_)
   clear hK K
   refine rdq 7 (h := fun K hK => ?_)
   go_simp
   go_wp2_with fail
   refine (refSub02_any _ _ q1 zm 10 _ (ratPost_raw me1 me2 me3 me4 me5 me6 hsq1) (ratPost_raw mg1 mg2 mg3 mg4 mg5 mg6 (hsz6.mono (by omega))) (by omega) hsq1 (hsz6.mono (by omega))).mono ?_
   rintro e w18 ⟨Ah, ch, Bh, dh, rfl, mh1, mh2, mh3, mh4, mh5, mh6, kb⟩
   replace me1 := me1.on kb
   replace me2 := me2.on kb
   replace mg1 := mg1.on kb
   replace mg2 := mg2.on kb
   replace rf := rowIs_on rf kb
   replace rp := rowIs_on rp kb
   replace r15 := rowIs_on r15 kb
   replace hD := onS hD kb
   clear kb
   have hxx : q1 - zm = X := by rw [HQ1.out, HXE.out]; rfl
   rw [hxx] at mh1 mh2 mh3 mh5 ⊢
   clear hxx
   clear me1 me2 me3 me4 me5 me6
   clear mg1 mg2 mg3 mg4 mg5 mg6
   refine bkq hK (HS.out _ rp) (h := fun hHeld => ?_)
   clear hK K
   refine rdq 9 (h := fun K hK => ?_)
   have hsz := hD.size
   have za0 := r15.frozen 0
   have za1 := r15.frozen 1
   have za2 := r15.frozen 2
   have ya0 : w18.cell? ⟨g15, 0, none⟩ = some _ := r15.cell (i := 0) (by omega)
   have ya1 : w18.cell? ⟨g15, 1, none⟩ = some _ := r15.cell (i := 1) (by omega)
   have ya2 : w18.cell? ⟨g15, 2, none⟩ = some _ := r15.cell (i := 2) (by omega)
   go_simp
   generalize hw3 : World.setCell _ _ _ = w19
   have hst : RatStored w18 (g15) 31 (rneg X) (Ah) (dl X.num.natAbs) (ch) (Bh) (dl X.den) (dh) w19 := by rw [← hw3]; exact rat_stored r15 _ _ _ _ _ _ _
   clear hw3
   replace rf := rowIs_grown rf hst.grown (by omega)
   replace rp := rowIs_grown rp hst.grown (by omega)
   replace hD := hst.below hD (by omega) (by omega)
   replace r15 := hst.row
   replace mh1 := hst.nat _ _ _ mh1
   rw [← hst.size] at mh1
   replace mh2 := hst.nat _ _ _ mh2
   rw [← hst.size] at mh2
   clear hst
   clear hsz za0 za1 za2 ya0 ya1 ya2
   refine bkq hK (HS.out _ rp) (h := fun hHeld => ?_)
   clear hK K
   refine wpAnyH_done (by kernel_rfl) ?_ _
   clear hHeld
   go_wp2
   go_meet
   exact ⟨g15, rfl, hg15, ⟨Ah, ch, Bh, dh, r15, mh1, mh2, mh3, mh4, mh5, mh6⟩, rf, rp, hD⟩
 case rest =>
  clear rf rp hD
  obtain ⟨g15, rfl, hg15, hX15, rf, rp, hD⟩ := hcut
  obtain ⟨w13, hw13⟩ : ∃ W, W = wc := ⟨_, rfl⟩
  rw [← hw13] at hX15 rf rp hD ⊢
  clear hw13
  obtain ⟨AX, cX, BX, dX, r15, mx1, mx2, mx3, mx4, mx5, mx6⟩ := hX15
  have HSX := hid hsX
  go_upto_region 12 with fail
  go_wp2_with fail
  refine (refInt_any 0 _ (by omega) (by omega)).mono ?_
  rintro e w14 ⟨Ao, co, Bo, do_, rfl, mo1, mo2, mo3, mo4, mo5, mo6, kb⟩
  replace mx1 := mx1.on kb
  replace mx2 := mx2.on kb
  replace r15 := rowIs_on r15 kb
  replace rf := rowIs_on rf kb
  replace rp := rowIs_on rp kb
  replace hD := onS hD kb
  clear kb
  obtain ⟨qo, hq0⟩ : ∃ q : Rat, q = ((0 : Int) : Rat) := ⟨_, rfl⟩
  rw [← hq0] at mo1 mo2 mo3 mo5 ⊢
  have HQo := hid hq0
  clear hq0
  have kb := below_one w14 (.cells #[.bool (rneg qo), .slice Ao (dl qo.num.natAbs) co, .slice Bo (dl qo.den) do_] 31)
  have r16 := box_row (w := w14) (a := .bool (rneg qo)) (b := .slice Ao (dl qo.num.natAbs) co) (c := .slice Bo (dl qo.den) do_) (T := 31)
  have hg16 := hD.size
  have hl15 := r15.lt
  replace mx1 := mx1.on kb
  replace mx2 := mx2.on kb
  replace mo1 := mo1.on kb
  replace mo2 := mo2.on kb
  replace r15 := rowIs_on r15 kb
  replace rf := rowIs_on rf kb
  replace rp := rowIs_on rp kb
  replace hD := onS hD kb
  clear kb
  obtain ⟨w15, hw2⟩ : ∃ W, W = w14.alloc (.cells #[.bool (rneg qo), .slice Ao (dl qo.num.natAbs) co, .slice Bo (dl qo.den) do_] 31) := ⟨_, rfl⟩
  rw [← hw2] at rf rp hD mx1 mx2 mo1 mo2 r15 r16
  obtain ⟨g16, hg⟩ : ∃ g, g = w14.heap.size := ⟨_, rfl⟩
  rw [← hg] at r16 hg16 hl15
  go_wp2
  rw [← hg, ← hw2]
  clear hw2 hg
  have hX15 : RatBox w15 g15 31 X := ⟨_, _, _, _, r15, mx1, mx2, mx3, mx4, mx5, mx6⟩
  have hS16 : RatBox w15 g16 31 (evR (fun j => (ys j : Rat)) X 0) := by
   have e : evR (fun j => (ys j : Rat)) X 0 = qo := HQo.out.symm
   rw [e]
   exact ⟨_, _, _, _, r16, mo1, mo2, mo3, mo4, mo5, mo6⟩
  clear mx1 mx2 mx3 mx4 mx5 mx6 mo1 mo2 mo3 mo4 mo5 mo6 r15 r16 HQo
  obtain ⟨N1, hN1'⟩ : ∃ z, z = N + 1 := ⟨_, rfl⟩
  have hsE : ∀ k, k ≤ N1 → rsz (evR (fun j => (ys j : Rat)) X k) 2000 := fun k hk => (rsz_evR (E := 2) (N := 10) (K := 134) (m := N1) (fun j _ => rsz_nat (by have := HY8.out j; omega) (by omega)) HSX.out (by omega) k hk).mono (by have : k * 134 ≤ 13 * 134 := Nat.mul_le_mul_right 134 (by omega); omega)
  have HSE := hid hsE
  rw [← hN1'] at bN HEQ b1
  have HN1 := hid hN1'
  rw [← hN1'] 
  have hN13 : N1 ≤ 13 := by omega
  clear hsE hN1'
  go_loopg [17, 18, 19] N1 (fun gg iv yv zv wx => ∃ j : Nat, iv = .int .i64 (j : Nat) ∧ j ≤ N1 ∧ N1 ≤ j + gg ∧ RatBox wx g15 31 X ∧ RatBox wx g16 31 (evR (fun i => (ys i : Rat)) X j) ∧ wx.rowIs w.heap.size 27 5 (codCell (.int .i64 (P : Nat)) (.int .i64 (M : Nat)) (.slice A k c) (.int .i64 (N : Nat)) (.slice T n d)) ∧ wx.rowIs (w.heap.size + 1) 31 3 (ratCell (.bool s) (.slice XA xl xc) (.slice XB yl yc)) ∧ Below w12.heap.size w12 wx)
  case atStart => exact ⟨0, rfl, by omega, by omega, hX15, hS16, rf, rp, hD⟩
  case round =>
   clear hX15 hS16 rf rp hD
   obtain ⟨j, rfl, hj, hjg, hX15, hS16, rf, rp, hD⟩ := hrel
   have hj0 : (0 : Int) ≤ (j : Int) := by omega
   obtain ⟨AX, cX, BX, dX, r15, mx1, mx2, mx3, mx4, mx5, mx6⟩ := hX15
   by_cases hlt : j < N1
   ·have hlt' : (j : Int) < (N1 : Int) := by omega
    have x0 : wr.cell? ⟨g15, 0, none⟩ = some (.bool (rneg X)) := r15.cell (i := 0) (by omega)
    have x1 : wr.cell? ⟨g15, 1, none⟩ = some (.slice AX (dl X.num.natAbs) cX) := r15.cell (i := 1) (by omega)
    have x2 : wr.cell? ⟨g15, 2, none⟩ = some (.slice BX (dl X.den) dX) := r15.cell (i := 2) (by omega)
    go_wp2_with fail
    refine (refPow02_any _ X 10 j wr (ratPost_raw mx1 mx2 mx3 mx4 mx5 mx6 HSX.out) (by omega) HSX.out (by omega)).mono ?_
    rintro e w16 ⟨u, rfl, ⟨Ay, cy, By, dy, rfl, my1, my2, my3, my4, my5, my6⟩, kb⟩
    replace mx1 := mx1.on kb
    replace mx2 := mx2.on kb
    replace r15 := rowIs_on r15 kb
    replace rf := rowIs_on rf kb
    replace rp := rowIs_on rp kb
    obtain ⟨AS, cS, BS, dS, r16, ms1, ms2, ms3, ms4, ms5, ms6⟩ := hS16
    replace ms1 := ms1.on kb
    replace ms2 := ms2.on kb
    replace r16 := rowIs_on r16 kb
    replace hD := onS hD kb
    clear kb x0 x1 x2
    have hsY : rsz (powR X j) 130 := (rsz_powR HSX.out j).mono (by omega)
    have hsS := HSE.out j hj
    have hsN := HSE.out (j + 1) (by omega)
    obtain ⟨yj, hyj⟩ : ∃ z, z = powR X j := ⟨_, rfl⟩
    rw [← hyj] at my1 my2 my3 my5 hsY ⊢
    have HYJ := hid hyj
    obtain ⟨Sj, hSj⟩ : ∃ z, z = evR (fun i => (ys i : Rat)) X j := ⟨_, rfl⟩
    rw [← hSj] at ms1 ms2 ms3 ms5 r16 hsS
    have HSJ := hid hSj
    clear hyj hSj
    have kb := below_one w16 (.cells #[.bool (rneg yj), .slice Ay (dl yj.num.natAbs) cy, .slice By (dl yj.den) dy] 31)
    have r18 := box_row (w := w16) (a := .bool (rneg yj)) (b := .slice Ay (dl yj.num.natAbs) cy) (c := .slice By (dl yj.den) dy) (T := 31)
    have hl18 := r16.lt
    have hg18 := hD.size
    replace mx1 := mx1.on kb
    replace mx2 := mx2.on kb
    replace ms1 := ms1.on kb
    replace ms2 := ms2.on kb
    replace my1 := my1.on kb
    replace my2 := my2.on kb
    replace r15 := rowIs_on r15 kb
    replace r16 := rowIs_on r16 kb
    replace rf := rowIs_on rf kb
    replace rp := rowIs_on rp kb
    replace hD := onS hD kb
    clear kb
    obtain ⟨w17, hw2⟩ : ∃ W, W = w16.alloc (.cells #[.bool (rneg yj), .slice Ay (dl yj.num.natAbs) cy, .slice By (dl yj.den) dy] 31) := ⟨_, rfl⟩
    rw [← hw2] at rf rp hD mx1 mx2 ms1 ms2 my1 my2 r15 r16 r18
    obtain ⟨g18, hg⟩ : ∃ g, g = w16.heap.size := ⟨_, rfl⟩
    rw [← hg] at r18 hl18 hg18
    go_upto_region 17 with fail
    rw [← hg, ← hw2]
    clear hg hw2
    obtain ⟨bb, ob, Ab, cb', rfl, hb1, hb2, hb3, hb4, hb5⟩ := bN j hlt
    obtain ⟨yb, hyb⟩ : ∃ z, z = ys j := ⟨_, rfl⟩
    have hyd := HY8.out j
    rw [← hyb] at hb2 hb3 hb5 hyd
    have HYB := hid hyb
    clear hyb
    have HBC : Hid (∀ w', Below w12.heap.size w12 w' → w'.cell? ⟨bb, ob + j, none⟩ = some (.slice Ab (dl yb) cb')) := fun w' hb => cellS hb hb2
    have HBO := hid hb5
    clear hb2 hb5 hb1
    obtain ⟨rb, hrb⟩ : ∃ z : Rat, z = (yb : Rat) := ⟨_, rfl⟩
    have hsrb : rsz rb 2 := by rw [hrb]; exact rsz_nat (by omega) (by omega)
    have hstm : rsz (rb * yj) 132 := rsz_mul hsrb hsY
    have hsn : evR (fun i => (ys i : Rat)) X (j + 1) = Sj + rb * yj := by rw [HSJ.out, hrb, HYB.out, HYJ.out]; rfl
    rw [hsn] at hsN
    have HRB := hid hrb
    have HSNE := hid hsn
    clear hrb hsn
    refine wp_region_held_drew (S := fun w' => w'.cell? ⟨g18, 0, none⟩ = some (.bool (rneg yj)) ∧ w'.cell? ⟨g18, 1, none⟩ = some (.slice Ay (dl yj.num.natAbs) cy) ∧ w'.cell? ⟨g18, 2, none⟩ = some (.slice By (dl yj.den) dy) ∧ w'.cell? ⟨bb, ob + j, none⟩ = some (.slice Ab (dl yb) cb')) (by kernel_rfl) ⟨cellS (Below.refl _ _).drew (r18.cell (i := 0) (by omega)), cellS (Below.refl _ _).drew (r18.cell (i := 1) (by omega)), cellS (Below.refl _ _).drew (r18.cell (i := 2) (by omega)), cellS (Below.refl _ _).drew (HBC.out _ hD)⟩ (fun hHeld => ?_)
    obtain ⟨w18, hw⟩ : ∃ W, W = World.drew w17 := ⟨_, rfl⟩
    have kb : Below w17.heap.size w17 w18 := by rw [hw]; exact (Below.refl _ _).drew
    rw [← hw] at hHeld ⊢
    clear hw
    replace mx1 := mx1.on kb
    replace mx2 := mx2.on kb
    replace ms1 := ms1.on kb
    replace ms2 := ms2.on kb
    replace my1 := my1.on kb
    replace my2 := my2.on kb
    replace rf := rowIs_on rf kb
    replace rp := rowIs_on rp kb
    replace r15 := rowIs_on r15 kb
    replace r16 := rowIs_on r16 kb
    replace r18 := rowIs_on r18 kb
    replace hD := onS hD kb
    clear kb
    refine tkq 1 (h := tkq 2 (h := tkq 3 (h := tkq 4 (h := tkq 6 (h := ?_)))))
    refine rdq2 0 5 (h := fun K hK => ?_) (h2 := fun K hK => ?_)
    ·have lg0 : w18.cell? ⟨g16, 0, none⟩ = some _ := r16.cell (i := 0) (by omega)
     have lg1 : w18.cell? ⟨g16, 1, none⟩ = some _ := r16.cell (i := 1) (by omega)
     have lg2 : w18.cell? ⟨g16, 2, none⟩ = some _ := r16.cell (i := 2) (by omega)
     go_simp
     clear lg0 lg1 lg2
     refine bkq hK ⟨r18.cell (i := 0) (by omega), r18.cell (i := 1) (by omega), r18.cell (i := 2) (by omega), HBC.out _ hD⟩ (h := fun hHeld => ?_)
     clear hK K
     refine rdq 5 (h := fun K hK => ?_)
     go_simp
     go_wp2_with fail
     refine (refNat02_any Ab (dl yb) cb' yb _ (HBO.out.on hD).raw hb3 hb4 (by omega)).mono ?_
     rintro e w19 ⟨An, cn, Bn, dn, rfl, mn1, mn2, mn3, mn4, mn5, mn6, kb⟩
     replace mx1 := mx1.on kb
     replace mx2 := mx2.on kb
     replace ms1 := ms1.on kb
     replace ms2 := ms2.on kb
     replace my1 := my1.on kb
     replace my2 := my2.on kb
     replace rf := rowIs_on rf kb
     replace rp := rowIs_on rp kb
     replace r15 := rowIs_on r15 kb
     replace r16 := rowIs_on r16 kb
     replace r18 := rowIs_on r18 kb
     replace hD := onS hD kb
     clear kb
     rw [← HRB.out] at mn1 mn2 mn3 mn5 ⊢
     refine bkq hK ⟨r18.cell (i := 0) (by omega), r18.cell (i := 1) (by omega), r18.cell (i := 2) (by omega), HBC.out _ hD⟩ (h := fun hHeld => ?_)
     clear hK K
     refine rdq 7 (h := fun K hK => ?_)
     go_simp
     go_wp2_with fail
     refine (refMul02_any _ _ rb yj 130 _ (ratPost_raw mn1 mn2 mn3 mn4 mn5 mn6 (hsrb.mono (by omega))) (ratPost_raw my1 my2 my3 my4 my5 my6 hsY) (by omega) (hsrb.mono (by omega)) hsY).mono ?_
     rintro e w20 ⟨At, ct, Bt, dt, rfl, mt1, mt2, mt3, mt4, mt5, mt6, kb⟩
     replace mx1 := mx1.on kb
     replace mx2 := mx2.on kb
     replace ms1 := ms1.on kb
     replace ms2 := ms2.on kb
     replace my1 := my1.on kb
     replace my2 := my2.on kb
     replace mn1 := mn1.on kb
     replace mn2 := mn2.on kb
     replace rf := rowIs_on rf kb
     replace rp := rowIs_on rp kb
     replace r15 := rowIs_on r15 kb
     replace r16 := rowIs_on r16 kb
     replace r18 := rowIs_on r18 kb
     replace hD := onS hD kb
     clear kb
     obtain ⟨tm, htm⟩ : ∃ z, z = rb * yj := ⟨_, rfl⟩
     rw [← htm] at mt1 mt2 mt3 mt5 hstm hsN ⊢
     have HTM := hid htm
     clear htm
     clear mn1 mn2 mn3 mn4 mn5 mn6
     clear my1 my2 my3 my4 my5 my6
     refine bkq hK ⟨r18.cell (i := 0) (by omega), r18.cell (i := 1) (by omega), r18.cell (i := 2) (by omega), HBC.out _ hD⟩ (h := fun hHeld => ?_)
     clear hK K
     refine rdq 8 (h := fun K hK => ?_)
     go_simp
     go_wp2_with fail
     refine (refAdd02_any _ _ Sj tm 2000 _ (ratPost_raw ms1 ms2 ms3 ms4 ms5 ms6 hsS) (ratPost_raw mt1 mt2 mt3 mt4 mt5 mt6 (hstm.mono (by omega))) (by omega) hsS (hstm.mono (by omega))).mono ?_
     rintro e w21 ⟨Aa, ca, Ba, da, rfl, ma1, ma2, ma3, ma4, ma5, ma6, kb⟩
     replace mx1 := mx1.on kb
     replace mx2 := mx2.on kb
     replace ms1 := ms1.on kb
     replace ms2 := ms2.on kb
     replace mt1 := mt1.on kb
     replace mt2 := mt2.on kb
     replace rf := rowIs_on rf kb
     replace rp := rowIs_on rp kb
     replace r15 := rowIs_on r15 kb
     replace r16 := rowIs_on r16 kb
     replace r18 := rowIs_on r18 kb
     replace hD := onS hD kb
     clear kb
     obtain ⟨Sn, hSn⟩ : ∃ z, z = Sj + tm := ⟨_, rfl⟩
     rw [← hSn] at ma1 ma2 ma3 ma5 hsN ⊢
     have HSN := hid hSn
     clear hSn
     clear ms1 ms2 ms3 ms4 ms5 ms6
     clear mt1 mt2 mt3 mt4 mt5 mt6
     refine bkq hK ⟨r18.cell (i := 0) (by omega), r18.cell (i := 1) (by omega), r18.cell (i := 2) (by omega), HBC.out _ hD⟩ (h := fun hHeld => ?_)
     clear hK K
     refine rdq 9 (h := fun K hK => ?_)
     have hsz := hD.size
     have za0 := r16.frozen 0
     have za1 := r16.frozen 1
     have za2 := r16.frozen 2
     have ya0 : w21.cell? ⟨g16, 0, none⟩ = some _ := r16.cell (i := 0) (by omega)
     have ya1 : w21.cell? ⟨g16, 1, none⟩ = some _ := r16.cell (i := 1) (by omega)
     have ya2 : w21.cell? ⟨g16, 2, none⟩ = some _ := r16.cell (i := 2) (by omega)
     go_simp
     generalize hw3 : World.setCell _ _ _ = w22
     have hst : RatStored w21 (g16) 31 (rneg Sn) (Aa) (dl Sn.num.natAbs) (ca) (Ba) (dl Sn.den) (da) w22 := by rw [← hw3]; exact rat_stored r16 _ _ _ _ _ _ _
     clear hw3
     replace rf := rowIs_grown rf hst.grown (by omega)
     replace rp := rowIs_grown rp hst.grown (by omega)
     replace r15 := rowIs_grown r15 hst.grown (by omega)
     replace r16 := hst.row
     replace r18 := rowIs_grown r18 hst.grown (by omega)
     replace hD := hst.below hD (by omega) (by omega)
     replace mx1 := hst.nat _ _ _ mx1
     rw [← hst.size] at mx1
     replace mx2 := hst.nat _ _ _ mx2
     rw [← hst.size] at mx2
     replace ma1 := hst.nat _ _ _ ma1
     rw [← hst.size] at ma1
     replace ma2 := hst.nat _ _ _ ma2
     rw [← hst.size] at ma2
     clear hst
     clear hsz za0 za1 za2 ya0 ya1 ya2
     refine bkq hK ⟨r18.cell (i := 0) (by omega), r18.cell (i := 1) (by omega), r18.cell (i := 2) (by omega), HBC.out _ hD⟩ (h := fun hHeld => ?_)
     clear hK K
     refine wpAnyH_done (by kernel_rfl) ?_ _
     clear hHeld
     have eS : evR (fun i => (ys i : Rat)) X (j + 1) = Sn := by rw [HSNE.out, HSN.out, HTM.out]
     go_wp2
     go_roundg (gk - 1)
     case measure => omega
     case rel => exact ⟨j + 1, by go_num, by omega, by omega, ⟨AX, cX, BX, dX, r15, mx1, mx2, mx3, mx4, mx5, mx6⟩, by rw [eS]; exact ⟨Aa, ca, Ba, da, r16, ma1, ma2, ma3, ma4, ma5, ma6⟩, rf, rp, hD⟩
    ·go_simp
     go_wp2_with fail
     refine (refNat02_any Ab (dl yb) cb' yb _ (HBO.out.on hD).raw hb3 hb4 (by omega)).mono ?_
     rintro e w19 ⟨An, cn, Bn, dn, rfl, mn1, mn2, mn3, mn4, mn5, mn6, kb⟩
     replace mx1 := mx1.on kb
     replace mx2 := mx2.on kb
     replace ms1 := ms1.on kb
     replace ms2 := ms2.on kb
     replace my1 := my1.on kb
     replace my2 := my2.on kb
     replace rf := rowIs_on rf kb
     replace rp := rowIs_on rp kb
     replace r15 := rowIs_on r15 kb
     replace r16 := rowIs_on r16 kb
     replace r18 := rowIs_on r18 kb
     replace hD := onS hD kb
     clear kb
     rw [← HRB.out] at mn1 mn2 mn3 mn5 ⊢
     refine bkq hK ⟨r18.cell (i := 0) (by omega), r18.cell (i := 1) (by omega), r18.cell (i := 2) (by omega), HBC.out _ hD⟩ (h := fun hHeld => ?_)
     clear hK K
     refine rdq2 0 7 (h := fun K hK => ?_) (h2 := fun K hK => ?_)
     ·have lg0 : w19.cell? ⟨g16, 0, none⟩ = some _ := r16.cell (i := 0) (by omega)
      have lg1 : w19.cell? ⟨g16, 1, none⟩ = some _ := r16.cell (i := 1) (by omega)
      have lg2 : w19.cell? ⟨g16, 2, none⟩ = some _ := r16.cell (i := 2) (by omega)
      go_simp
      clear lg0 lg1 lg2
      refine bkq hK ⟨r18.cell (i := 0) (by omega), r18.cell (i := 1) (by omega), r18.cell (i := 2) (by omega), HBC.out _ hD⟩ (h := fun hHeld => ?_)
      clear hK K
      refine rdq 7 (h := fun K hK => ?_)
      go_simp
      go_wp2_with fail
      refine (refMul02_any _ _ rb yj 130 _ (ratPost_raw mn1 mn2 mn3 mn4 mn5 mn6 (hsrb.mono (by omega))) (ratPost_raw my1 my2 my3 my4 my5 my6 hsY) (by omega) (hsrb.mono (by omega)) hsY).mono ?_
      rintro e w20 ⟨At, ct, Bt, dt, rfl, mt1, mt2, mt3, mt4, mt5, mt6, kb⟩
      replace mx1 := mx1.on kb
      replace mx2 := mx2.on kb
      replace ms1 := ms1.on kb
      replace ms2 := ms2.on kb
      replace my1 := my1.on kb
      replace my2 := my2.on kb
      replace mn1 := mn1.on kb
      replace mn2 := mn2.on kb
      replace rf := rowIs_on rf kb
      replace rp := rowIs_on rp kb
      replace r15 := rowIs_on r15 kb
      replace r16 := rowIs_on r16 kb
      replace r18 := rowIs_on r18 kb
      replace hD := onS hD kb
      clear kb
      obtain ⟨tm, htm⟩ : ∃ z, z = rb * yj := ⟨_, rfl⟩
      rw [← htm] at mt1 mt2 mt3 mt5 hstm hsN ⊢
      have HTM := hid htm
      clear htm
      clear mn1 mn2 mn3 mn4 mn5 mn6
      clear my1 my2 my3 my4 my5 my6
      refine bkq hK ⟨r18.cell (i := 0) (by omega), r18.cell (i := 1) (by omega), r18.cell (i := 2) (by omega), HBC.out _ hD⟩ (h := fun hHeld => ?_)
      clear hK K
      refine rdq 8 (h := fun K hK => ?_)
      go_simp
      go_wp2_with fail
      refine (refAdd02_any _ _ Sj tm 2000 _ (ratPost_raw ms1 ms2 ms3 ms4 ms5 ms6 hsS) (ratPost_raw mt1 mt2 mt3 mt4 mt5 mt6 (hstm.mono (by omega))) (by omega) hsS (hstm.mono (by omega))).mono ?_
      rintro e w21 ⟨Aa, ca, Ba, da, rfl, ma1, ma2, ma3, ma4, ma5, ma6, kb⟩
      replace mx1 := mx1.on kb
      replace mx2 := mx2.on kb
      replace ms1 := ms1.on kb
      replace ms2 := ms2.on kb
      replace mt1 := mt1.on kb
      replace mt2 := mt2.on kb
      replace rf := rowIs_on rf kb
      replace rp := rowIs_on rp kb
      replace r15 := rowIs_on r15 kb
      replace r16 := rowIs_on r16 kb
      replace r18 := rowIs_on r18 kb
      replace hD := onS hD kb
      clear kb
      obtain ⟨Sn, hSn⟩ : ∃ z, z = Sj + tm := ⟨_, rfl⟩
      rw [← hSn] at ma1 ma2 ma3 ma5 hsN ⊢
      have HSN := hid hSn
      clear hSn
      clear ms1 ms2 ms3 ms4 ms5 ms6
      clear mt1 mt2 mt3 mt4 mt5 mt6
      refine bkq hK ⟨r18.cell (i := 0) (by omega), r18.cell (i := 1) (by omega), r18.cell (i := 2) (by omega), HBC.out _ hD⟩ (h := fun hHeld => ?_)
      clear hK K
      refine rdq 9 (h := fun K hK => ?_)
      have hsz := hD.size
      have za0 := r16.frozen 0
      have za1 := r16.frozen 1
      have za2 := r16.frozen 2
      have ya0 : w21.cell? ⟨g16, 0, none⟩ = some _ := r16.cell (i := 0) (by omega)
      have ya1 : w21.cell? ⟨g16, 1, none⟩ = some _ := r16.cell (i := 1) (by omega)
      have ya2 : w21.cell? ⟨g16, 2, none⟩ = some _ := r16.cell (i := 2) (by omega)
      go_simp
      generalize hw3 : World.setCell _ _ _ = w22
      have hst : RatStored w21 (g16) 31 (rneg Sn) (Aa) (dl Sn.num.natAbs) (ca) (Ba) (dl Sn.den) (da) w22 := by rw [← hw3]; exact rat_stored r16 _ _ _ _ _ _ _
      clear hw3
      replace rf := rowIs_grown rf hst.grown (by omega)
      replace rp := rowIs_grown rp hst.grown (by omega)
      replace r15 := rowIs_grown r15 hst.grown (by omega)
      replace r16 := hst.row
      replace r18 := rowIs_grown r18 hst.grown (by omega)
      replace hD := hst.below hD (by omega) (by omega)
      replace mx1 := hst.nat _ _ _ mx1
      rw [← hst.size] at mx1
      replace mx2 := hst.nat _ _ _ mx2
      rw [← hst.size] at mx2
      replace ma1 := hst.nat _ _ _ ma1
      rw [← hst.size] at ma1
      replace ma2 := hst.nat _ _ _ ma2
      rw [← hst.size] at ma2
      clear hst
      clear hsz za0 za1 za2 ya0 ya1 ya2
      refine bkq hK ⟨r18.cell (i := 0) (by omega), r18.cell (i := 1) (by omega), r18.cell (i := 2) (by omega), HBC.out _ hD⟩ (h := fun hHeld => ?_)
      clear hK K
      refine wpAnyH_done (by kernel_rfl) ?_ _
      clear hHeld
      have eS : evR (fun i => (ys i : Rat)) X (j + 1) = Sn := by rw [HSNE.out, HSN.out, HTM.out]
      go_wp2
      go_roundg (gk - 1)
      case measure => omega
      case rel => exact ⟨j + 1, by go_num, by omega, by omega, ⟨AX, cX, BX, dX, r15, mx1, mx2, mx3, mx4, mx5, mx6⟩, by rw [eS]; exact ⟨Aa, ca, Ba, da, r16, ma1, ma2, ma3, ma4, ma5, ma6⟩, rf, rp, hD⟩
     ·go_simp
      go_wp2_with fail
      refine (refMul02_any _ _ rb yj 130 _ (ratPost_raw mn1 mn2 mn3 mn4 mn5 mn6 (hsrb.mono (by omega))) (ratPost_raw my1 my2 my3 my4 my5 my6 hsY) (by omega) (hsrb.mono (by omega)) hsY).mono ?_
      rintro e w20 ⟨At, ct, Bt, dt, rfl, mt1, mt2, mt3, mt4, mt5, mt6, kb⟩
      replace mx1 := mx1.on kb
      replace mx2 := mx2.on kb
      replace ms1 := ms1.on kb
      replace ms2 := ms2.on kb
      replace my1 := my1.on kb
      replace my2 := my2.on kb
      replace mn1 := mn1.on kb
      replace mn2 := mn2.on kb
      replace rf := rowIs_on rf kb
      replace rp := rowIs_on rp kb
      replace r15 := rowIs_on r15 kb
      replace r16 := rowIs_on r16 kb
      replace r18 := rowIs_on r18 kb
      replace hD := onS hD kb
      clear kb
      obtain ⟨tm, htm⟩ : ∃ z, z = rb * yj := ⟨_, rfl⟩
      rw [← htm] at mt1 mt2 mt3 mt5 hstm hsN ⊢
      have HTM := hid htm
      clear htm
      clear mn1 mn2 mn3 mn4 mn5 mn6
      clear my1 my2 my3 my4 my5 my6
      refine bkq hK ⟨r18.cell (i := 0) (by omega), r18.cell (i := 1) (by omega), r18.cell (i := 2) (by omega), HBC.out _ hD⟩ (h := fun hHeld => ?_)
      clear hK K
      refine rdq 0 (h := fun K hK => ?_)
      have lg0 : w20.cell? ⟨g16, 0, none⟩ = some _ := r16.cell (i := 0) (by omega)
      have lg1 : w20.cell? ⟨g16, 1, none⟩ = some _ := r16.cell (i := 1) (by omega)
      have lg2 : w20.cell? ⟨g16, 2, none⟩ = some _ := r16.cell (i := 2) (by omega)
      go_simp
      clear lg0 lg1 lg2
      refine bkq hK ⟨r18.cell (i := 0) (by omega), r18.cell (i := 1) (by omega), r18.cell (i := 2) (by omega), HBC.out _ hD⟩ (h := fun hHeld => ?_)
      clear hK K
      refine rdq 8 (h := fun K hK => ?_)
      go_simp
      go_wp2_with fail
      refine (refAdd02_any _ _ Sj tm 2000 _ (ratPost_raw ms1 ms2 ms3 ms4 ms5 ms6 hsS) (ratPost_raw mt1 mt2 mt3 mt4 mt5 mt6 (hstm.mono (by omega))) (by omega) hsS (hstm.mono (by omega))).mono ?_
      rintro e w21 ⟨Aa, ca, Ba, da, rfl, ma1, ma2, ma3, ma4, ma5, ma6, kb⟩
      replace mx1 := mx1.on kb
      replace mx2 := mx2.on kb
      replace ms1 := ms1.on kb
      replace ms2 := ms2.on kb
      replace mt1 := mt1.on kb
      replace mt2 := mt2.on kb
      replace rf := rowIs_on rf kb
      replace rp := rowIs_on rp kb
      replace r15 := rowIs_on r15 kb
      replace r16 := rowIs_on r16 kb
      replace r18 := rowIs_on r18 kb
      replace hD := onS hD kb
      clear kb
      obtain ⟨Sn, hSn⟩ : ∃ z, z = Sj + tm := ⟨_, rfl⟩
      rw [← hSn] at ma1 ma2 ma3 ma5 hsN ⊢
      have HSN := hid hSn
      clear hSn
      clear ms1 ms2 ms3 ms4 ms5 ms6
      clear mt1 mt2 mt3 mt4 mt5 mt6
      refine bkq hK ⟨r18.cell (i := 0) (by omega), r18.cell (i := 1) (by omega), r18.cell (i := 2) (by omega), HBC.out _ hD⟩ (h := fun hHeld => ?_)
      clear hK K
      refine rdq 9 (h := fun K hK => ?_)
      have hsz := hD.size
      have za0 := r16.frozen 0
      have za1 := r16.frozen 1
      have za2 := r16.frozen 2
      have ya0 : w21.cell? ⟨g16, 0, none⟩ = some _ := r16.cell (i := 0) (by omega)
      have ya1 : w21.cell? ⟨g16, 1, none⟩ = some _ := r16.cell (i := 1) (by omega)
      have ya2 : w21.cell? ⟨g16, 2, none⟩ = some _ := r16.cell (i := 2) (by omega)
      go_simp
      generalize hw3 : World.setCell _ _ _ = w22
      have hst : RatStored w21 (g16) 31 (rneg Sn) (Aa) (dl Sn.num.natAbs) (ca) (Ba) (dl Sn.den) (da) w22 := by rw [← hw3]; exact rat_stored r16 _ _ _ _ _ _ _
      clear hw3
      replace rf := rowIs_grown rf hst.grown (by omega)
      replace rp := rowIs_grown rp hst.grown (by omega)
      replace r15 := rowIs_grown r15 hst.grown (by omega)
      replace r16 := hst.row
      replace r18 := rowIs_grown r18 hst.grown (by omega)
      replace hD := hst.below hD (by omega) (by omega)
      replace mx1 := hst.nat _ _ _ mx1
      rw [← hst.size] at mx1
      replace mx2 := hst.nat _ _ _ mx2
      rw [← hst.size] at mx2
      replace ma1 := hst.nat _ _ _ ma1
      rw [← hst.size] at ma1
      replace ma2 := hst.nat _ _ _ ma2
      rw [← hst.size] at ma2
      clear hst
      clear hsz za0 za1 za2 ya0 ya1 ya2
      refine bkq hK ⟨r18.cell (i := 0) (by omega), r18.cell (i := 1) (by omega), r18.cell (i := 2) (by omega), HBC.out _ hD⟩ (h := fun hHeld => ?_)
      clear hK K
      refine wpAnyH_done (by kernel_rfl) ?_ _
      clear hHeld
      have eS : evR (fun i => (ys i : Rat)) X (j + 1) = Sn := by rw [HSNE.out, HSN.out, HTM.out]
      go_wp2
      go_roundg (gk - 1)
      case measure => omega
      case rel => exact ⟨j + 1, by go_num, by omega, by omega, ⟨AX, cX, BX, dX, r15, mx1, mx2, mx3, mx4, mx5, mx6⟩, by rw [eS]; exact ⟨Aa, ca, Ba, da, r16, ma1, ma2, ma3, ma4, ma5, ma6⟩, rf, rp, hD⟩
   ·obtain rfl : j = N1 := by omega
    have hlt' : ¬ ((j : Nat) : Int) < (j : Int) := by omega
    clear hlt
    have hsS := HSE.out j (Nat.le_refl _)
    obtain ⟨AS, cS, BS, dS, r16, ms1, ms2, ms3, ms4, ms5, ms6⟩ := hS16
    obtain ⟨S1, hS1⟩ : ∃ z, z = evR (fun i => (ys i : Rat)) X j := ⟨_, rfl⟩
    rw [← hS1] at ms1 ms2 ms3 ms5 r16 hsS HEQ
    clear hS1 mx1 mx2 mx3 mx4 mx5 mx6 r15
    have hs1p : rsz (1 - p) 10 := (rsz_sub rsz_one hsp).mono (by omega)
    have hsPN : rsz (powR (1 - p) N) 130 := (rsz_powR hs1p N).mono (by omega)
    obtain ⟨p1, hp1⟩ : ∃ z, z = 1 - p := ⟨_, rfl⟩
    rw [← hp1] at HEQ hs1p hsPN
    have HP1 := hid hp1
    obtain ⟨PN, hPN⟩ : ∃ z, z = powR p1 N := ⟨_, rfl⟩
    rw [← hPN] at HEQ hsPN
    have HPN := hid hPN
    clear hp1 hPN
    have hdl : rsz (mkRat 1 L2) 2 := by
     have := rsz_rv (s := false) (x := 1) (y := L2) (N := 2) (dl_le (by omega)) (dl_le (by omega)) (by omega)
     exact this
    have hol : rv (decide ((1 : Int) < 0) != decide ((L2 : Int) < 0)) (1 : Int).natAbs (L2 : Int).natAbs = mkRat 1 L2 := by
     have e2 : decide ((L2 : Int) < 0) = false := by simp
     rw [e2]
     rfl
    obtain ⟨il, hil⟩ : ∃ z, z = mkRat 1 L2 := ⟨_, rfl⟩
    rw [← hil] at hol hdl HEQ
    have HOL := hid hol
    clear hil hol
    have hsSI : rsz (S1 * il) 2002 := rsz_mul hsS hdl
    have hsW : rsz (S1 * il - PN) 5000 := (rsz_sub hsSI hsPN).mono (by omega)
    obtain ⟨SI, hSI⟩ : ∃ z, z = S1 * il := ⟨_, rfl⟩
    rw [← hSI] at HEQ hsSI hsW
    have HSI := hid hSI
    obtain ⟨WT, hWT⟩ : ∃ z, z = SI - PN := ⟨_, rfl⟩
    rw [← hWT] at HEQ hsW
    have HWT := hid hWT
    clear hSI hWT
    go_upto_region 18 with fail
    go_cut [20, 21] (fun v20 v21 wx => ∃ g, v20 = .pointer (some ⟨g, 0, none⟩) ∧ RatBox wx g 31 PN ∧ RatBox wx g16 31 S1 ∧ wx.rowIs w.heap.size 27 5 (codCell (.int .i64 (P : Nat)) (.int .i64 (M : Nat)) (.slice A k c) (.int .i64 (N : Nat)) (.slice T n d)) ∧ wx.rowIs (w.heap.size + 1) 31 3 (ratCell (.bool s) (.slice XA xl xc) (.slice XB yl yc)) ∧ Below w12.heap.size w12 wx)
    case first =>
     obtain ⟨w30, hww⟩ : ∃ W, W = wr := ⟨_, rfl⟩
     rw [← hww] at ms1 ms2 r16 rf rp hD ⊢
     clear hww
     refine wp_region_held_drew (S := fun w' => w'.cell? ⟨w.heap.size + 1, 0, none⟩ = some (.bool (s)) ∧ w'.cell? ⟨w.heap.size + 1, 1, none⟩ = some (.slice (XA) (xl) (xc)) ∧ w'.cell? ⟨w.heap.size + 1, 2, none⟩ = some (.slice (XB) (yl) (yc)) ∧ w'.cell? ⟨w.heap.size, 3, none⟩ = some (.int .i64 (N : Nat))) (by kernel_rfl) ⟨cellS (Below.refl _ _).drew (rp.cell (i := 0) (by omega)), cellS (Below.refl _ _).drew (rp.cell (i := 1) (by omega)), cellS (Below.refl _ _).drew (rp.cell (i := 2) (by omega)), cellS (Below.refl _ _).drew (rf.cell (i := 3) (by omega))⟩ (fun hHeld => ?_)
     obtain ⟨w31, hw⟩ : ∃ W, W = World.drew w30 := ⟨_, rfl⟩
     have kb : Below w30.heap.size w30 w31 := by rw [hw]; exact (Below.refl _ _).drew
     rw [← hw] at hHeld ⊢
     clear hw
     replace ms1 := ms1.on kb
     replace ms2 := ms2.on kb
     replace rf := rowIs_on rf kb
     replace rp := rowIs_on rp kb
     replace r16 := rowIs_on r16 kb
     replace hD := onS hD kb
     clear kb
     refine tkq 1 (h := tkq 3 (h := tkq 4 (h := ?_)))
     refine rdq2 0 9 (h := fun K hK => ?_) (h2 := fun K hK => ?_)
     ·go_simp
      go_wp2_with fail
      refine (refInt_any 1 _ (by omega) (by omega)).mono ?_
      rintro e w32 ⟨Ae, ce, Be, de, rfl, me1, me2, me3, me4, me5, me6, kb⟩
      replace ms1 := ms1.on kb
      replace ms2 := ms2.on kb
      replace rf := rowIs_on rf kb
      replace rp := rowIs_on rp kb
      replace r16 := rowIs_on r16 kb
      replace hD := onS hD kb
      clear kb
      obtain ⟨q1, hq⟩ : ∃ q : Rat, q = ((1 : Int) : Rat) := ⟨_, rfl⟩
      rw [← hq] at me1 me2 me3 me5 ⊢
      have HQ1 := hid hq
      clear hq
      have hsq1 : rsz q1 10 := by rw [HQ1.out]; exact ⟨by decide +kernel, by decide +kernel⟩
      refine bkq hK ⟨rp.cell (i := 0) (by omega), rp.cell (i := 1) (by omega), rp.cell (i := 2) (by omega), rf.cell (i := 3) (by omega)⟩ (h := fun hHeld => ?_)
      clear hK K
      refine rdq2 2 9 (h := fun K hK => ?_) (h2 := fun K hK => ?_)
      ·go_simp
       go_wp2_with fail
       refine (refSub02_any _ _ q1 p 10 _ (ratPost_raw me1 me2 me3 me4 me5 me6 hsq1) (HP10.out.on (onS HB.out hD)) (by omega) hsq1 (hsp.mono (by omega))).mono ?_
       rintro e w33 ⟨Ah, ch, Bh, dh, rfl, mh1, mh2, mh3, mh4, mh5, mh6, kb⟩
       replace ms1 := ms1.on kb
       replace ms2 := ms2.on kb
       replace me1 := me1.on kb
       replace me2 := me2.on kb
       replace rf := rowIs_on rf kb
       replace rp := rowIs_on rp kb
       replace r16 := rowIs_on r16 kb
       replace hD := onS hD kb
       clear kb
       have hxx : q1 - p = p1 := by rw [HQ1.out, HP1.out]; rfl
       rw [hxx] at mh1 mh2 mh3 mh5 ⊢
       clear hxx
       clear me1 me2 me3 me4 me5 me6
       refine bkq hK ⟨rp.cell (i := 0) (by omega), rp.cell (i := 1) (by omega), rp.cell (i := 2) (by omega), rf.cell (i := 3) (by omega)⟩ (h := fun hHeld => ?_)
       clear hK K
       refine rdq2 5 9 (h := fun K hK => ?_) (h2 := fun K hK => ?_)
       ·go_simp
        go_wp2_with fail
        refine (refPow02_any _ p1 10 N _ (ratPost_raw mh1 mh2 mh3 mh4 mh5 mh6 hs1p) (by omega) hs1p (by omega)).mono ?_
        rintro e w34 ⟨u, rfl, ⟨Ay, cy, By, dy, rfl, my1, my2, my3, my4, my5, my6⟩, kb⟩
        replace ms1 := ms1.on kb
        replace ms2 := ms2.on kb
        replace mh1 := mh1.on kb
        replace mh2 := mh2.on kb
        replace rf := rowIs_on rf kb
        replace rp := rowIs_on rp kb
        replace r16 := rowIs_on r16 kb
        replace hD := onS hD kb
        clear kb
        rw [← HPN.out] at my1 my2 my3 my5 ⊢
        clear mh1 mh2 mh3 mh4 mh5 mh6
        refine bkq hK ⟨rp.cell (i := 0) (by omega), rp.cell (i := 1) (by omega), rp.cell (i := 2) (by omega), rf.cell (i := 3) (by omega)⟩ (h := fun hHeld => ?_)
        clear hK K
        refine tkq 6 (h := tkq 7 (h := tkq 8 (h := ?_)))
        refine rdq 9 (h := fun K hK => ?_)
        go_simp
        have kb := below_one w34 (.cells #[.bool false, .slice none 0 0, .slice none 0 0] 31)
        have r20 := box_row (w := w34) (a := .bool false) (b := .slice none 0 0) (c := .slice none 0 0) (T := 31)
        have hg20 := hD.size
        have hl20rf := rf.lt
        have hl20rp := rp.lt
        have hl20r16 := r16.lt
        replace ms1 := ms1.on kb
        replace ms2 := ms2.on kb
        replace my1 := my1.on kb
        replace my2 := my2.on kb
        replace rf := rowIs_on rf kb
        replace rp := rowIs_on rp kb
        replace r16 := rowIs_on r16 kb
        replace hD := onS hD kb
        clear kb
        obtain ⟨w35, hww⟩ : ∃ W, W = World.alloc w34 (.cells #[.bool false, .slice none 0 0, .slice none 0 0] 31) := ⟨_, rfl⟩
        rw [← hww] at rf rp r16 hD ms1 ms2 my1 my2 r20 ⊢
        obtain ⟨g20, hgg⟩ : ∃ g, g = w34.heap.size := ⟨_, rfl⟩
        rw [← hgg] at r20 hg20 hl20rf hl20rp hl20r16 ⊢
        clear hww hgg
        refine bkq hK ⟨rp.cell (i := 0) (by omega), rp.cell (i := 1) (by omega), rp.cell (i := 2) (by omega), rf.cell (i := 3) (by omega)⟩ (h := fun hHeld => ?_)
        clear hK K
        refine rdq 10 (h := fun K hK => ?_)
        have hsz := hD.size
        have za0 := r20.frozen 0
        have za1 := r20.frozen 1
        have za2 := r20.frozen 2
        have ya0 : w35.cell? ⟨g20, 0, none⟩ = some _ := r20.cell (i := 0) (by omega)
        have ya1 : w35.cell? ⟨g20, 1, none⟩ = some _ := r20.cell (i := 1) (by omega)
        have ya2 : w35.cell? ⟨g20, 2, none⟩ = some _ := r20.cell (i := 2) (by omega)
        go_simp
        generalize hw3 : World.setCell _ _ _ = w36
        have hst : RatStored w35 (g20) 31 (rneg PN) (Ay) (dl PN.num.natAbs) (cy) (By) (dl PN.den) (dy) w36 := by rw [← hw3]; exact rat_stored r20 _ _ _ _ _ _ _
        clear hw3
        replace rf := rowIs_grown rf hst.grown (by omega)
        replace rp := rowIs_grown rp hst.grown (by omega)
        replace r16 := rowIs_grown r16 hst.grown (by omega)
        replace hD := hst.below hD (by omega) (by omega)
        replace ms1 := hst.nat _ _ _ ms1
        rw [← hst.size] at ms1
        replace ms2 := hst.nat _ _ _ ms2
        rw [← hst.size] at ms2
        replace my1 := hst.nat _ _ _ my1
        rw [← hst.size] at my1
        replace my2 := hst.nat _ _ _ my2
        rw [← hst.size] at my2
        replace r20 := hst.row
        clear hst
        clear hsz za0 za1 za2 ya0 ya1 ya2
        refine bkq hK ⟨rp.cell (i := 0) (by omega), rp.cell (i := 1) (by omega), rp.cell (i := 2) (by omega), rf.cell (i := 3) (by omega)⟩ (h := fun hHeld => ?_)
        clear hK K
        refine tkq 11 (h := ?_)
        refine wpAnyH_done (by kernel_rfl) ?_ _
        clear hHeld
        go_wp2
        go_meet
        exact ⟨g20, rfl, ⟨Ay, cy, By, dy, r20, my1, my2, my3, my4, my5, my6⟩, ⟨AS, cS, BS, dS, r16, ms1, ms2, ms3, ms4, ms5, ms6⟩, rf, rp, hD⟩
       ·go_simp
        have kb := below_one w33 (.cells #[.bool false, .slice none 0 0, .slice none 0 0] 31)
        have r20 := box_row (w := w33) (a := .bool false) (b := .slice none 0 0) (c := .slice none 0 0) (T := 31)
        have hg20 := hD.size
        have hl20rf := rf.lt
        have hl20rp := rp.lt
        have hl20r16 := r16.lt
        replace ms1 := ms1.on kb
        replace ms2 := ms2.on kb
        replace mh1 := mh1.on kb
        replace mh2 := mh2.on kb
        replace rf := rowIs_on rf kb
        replace rp := rowIs_on rp kb
        replace r16 := rowIs_on r16 kb
        replace hD := onS hD kb
        clear kb
        obtain ⟨w34, hww⟩ : ∃ W, W = World.alloc w33 (.cells #[.bool false, .slice none 0 0, .slice none 0 0] 31) := ⟨_, rfl⟩
        rw [← hww] at rf rp r16 hD ms1 ms2 mh1 mh2 r20 ⊢
        obtain ⟨g20, hgg⟩ : ∃ g, g = w33.heap.size := ⟨_, rfl⟩
        rw [← hgg] at r20 hg20 hl20rf hl20rp hl20r16 ⊢
        clear hww hgg
        refine bkq hK ⟨rp.cell (i := 0) (by omega), rp.cell (i := 1) (by omega), rp.cell (i := 2) (by omega), rf.cell (i := 3) (by omega)⟩ (h := fun hHeld => ?_)
        clear hK K
        refine rdq 5 (h := fun K hK => ?_)
        go_simp
        go_wp2_with fail
        refine (refPow02_any _ p1 10 N _ (ratPost_raw mh1 mh2 mh3 mh4 mh5 mh6 hs1p) (by omega) hs1p (by omega)).mono ?_
        rintro e w35 ⟨u, rfl, ⟨Ay, cy, By, dy, rfl, my1, my2, my3, my4, my5, my6⟩, kb⟩
        replace ms1 := ms1.on kb
        replace ms2 := ms2.on kb
        replace mh1 := mh1.on kb
        replace mh2 := mh2.on kb
        replace rf := rowIs_on rf kb
        replace rp := rowIs_on rp kb
        replace r16 := rowIs_on r16 kb
        replace r20 := rowIs_on r20 kb
        replace hD := onS hD kb
        clear kb
        rw [← HPN.out] at my1 my2 my3 my5 ⊢
        clear mh1 mh2 mh3 mh4 mh5 mh6
        refine bkq hK ⟨rp.cell (i := 0) (by omega), rp.cell (i := 1) (by omega), rp.cell (i := 2) (by omega), rf.cell (i := 3) (by omega)⟩ (h := fun hHeld => ?_)
        clear hK K
        refine tkq 6 (h := tkq 7 (h := tkq 8 (h := ?_)))
        refine rdq 10 (h := fun K hK => ?_)
        have hsz := hD.size
        have za0 := r20.frozen 0
        have za1 := r20.frozen 1
        have za2 := r20.frozen 2
        have ya0 : w35.cell? ⟨g20, 0, none⟩ = some _ := r20.cell (i := 0) (by omega)
        have ya1 : w35.cell? ⟨g20, 1, none⟩ = some _ := r20.cell (i := 1) (by omega)
        have ya2 : w35.cell? ⟨g20, 2, none⟩ = some _ := r20.cell (i := 2) (by omega)
        go_simp
        generalize hw3 : World.setCell _ _ _ = w36
        have hst : RatStored w35 (g20) 31 (rneg PN) (Ay) (dl PN.num.natAbs) (cy) (By) (dl PN.den) (dy) w36 := by rw [← hw3]; exact rat_stored r20 _ _ _ _ _ _ _
        clear hw3
        replace rf := rowIs_grown rf hst.grown (by omega)
        replace rp := rowIs_grown rp hst.grown (by omega)
        replace r16 := rowIs_grown r16 hst.grown (by omega)
        replace hD := hst.below hD (by omega) (by omega)
        replace ms1 := hst.nat _ _ _ ms1
        rw [← hst.size] at ms1
        replace ms2 := hst.nat _ _ _ ms2
        rw [← hst.size] at ms2
        replace r20 := hst.row
        replace my1 := hst.nat _ _ _ my1
        rw [← hst.size] at my1
        replace my2 := hst.nat _ _ _ my2
        rw [← hst.size] at my2
        clear hst
        clear hsz za0 za1 za2 ya0 ya1 ya2
        refine bkq hK ⟨rp.cell (i := 0) (by omega), rp.cell (i := 1) (by omega), rp.cell (i := 2) (by omega), rf.cell (i := 3) (by omega)⟩ (h := fun hHeld => ?_)
        clear hK K
        refine tkq 11 (h := ?_)
        refine wpAnyH_done (by kernel_rfl) ?_ _
        clear hHeld
        go_wp2
        go_meet
        exact ⟨g20, rfl, ⟨Ay, cy, By, dy, r20, my1, my2, my3, my4, my5, my6⟩, ⟨AS, cS, BS, dS, r16, ms1, ms2, ms3, ms4, ms5, ms6⟩, rf, rp, hD⟩
      ·go_simp
       have kb := below_one w32 (.cells #[.bool false, .slice none 0 0, .slice none 0 0] 31)
       have r20 := box_row (w := w32) (a := .bool false) (b := .slice none 0 0) (c := .slice none 0 0) (T := 31)
       have hg20 := hD.size
       have hl20rf := rf.lt
       have hl20rp := rp.lt
       have hl20r16 := r16.lt
       replace ms1 := ms1.on kb
       replace ms2 := ms2.on kb
       replace me1 := me1.on kb
       replace me2 := me2.on kb
       replace rf := rowIs_on rf kb
       replace rp := rowIs_on rp kb
       replace r16 := rowIs_on r16 kb
       replace hD := onS hD kb
       clear kb
       obtain ⟨w33, hww⟩ : ∃ W, W = World.alloc w32 (.cells #[.bool false, .slice none 0 0, .slice none 0 0] 31) := ⟨_, rfl⟩
       rw [← hww] at rf rp r16 hD ms1 ms2 me1 me2 r20 ⊢
       obtain ⟨g20, hgg⟩ : ∃ g, g = w32.heap.size := ⟨_, rfl⟩
       rw [← hgg] at r20 hg20 hl20rf hl20rp hl20r16 ⊢
       clear hww hgg
       refine bkq hK ⟨rp.cell (i := 0) (by omega), rp.cell (i := 1) (by omega), rp.cell (i := 2) (by omega), rf.cell (i := 3) (by omega)⟩ (h := fun hHeld => ?_)
       clear hK K
       refine rdq 2 (h := fun K hK => ?_)
       go_simp
       go_wp2_with fail
       refine (refSub02_any _ _ q1 p 10 _ (ratPost_raw me1 me2 me3 me4 me5 me6 hsq1) (HP10.out.on (onS HB.out hD)) (by omega) hsq1 (hsp.mono (by omega))).mono ?_
       rintro e w34 ⟨Ah, ch, Bh, dh, rfl, mh1, mh2, mh3, mh4, mh5, mh6, kb⟩
       replace ms1 := ms1.on kb
       replace ms2 := ms2.on kb
       replace me1 := me1.on kb
       replace me2 := me2.on kb
       replace rf := rowIs_on rf kb
       replace rp := rowIs_on rp kb
       replace r16 := rowIs_on r16 kb
       replace r20 := rowIs_on r20 kb
       replace hD := onS hD kb
       clear kb
       have hxx : q1 - p = p1 := by rw [HQ1.out, HP1.out]; rfl
       rw [hxx] at mh1 mh2 mh3 mh5 ⊢
       clear hxx
       clear me1 me2 me3 me4 me5 me6
       refine bkq hK ⟨rp.cell (i := 0) (by omega), rp.cell (i := 1) (by omega), rp.cell (i := 2) (by omega), rf.cell (i := 3) (by omega)⟩ (h := fun hHeld => ?_)
       clear hK K
       refine rdq 5 (h := fun K hK => ?_)
       go_simp
       go_wp2_with fail
       refine (refPow02_any _ p1 10 N _ (ratPost_raw mh1 mh2 mh3 mh4 mh5 mh6 hs1p) (by omega) hs1p (by omega)).mono ?_
       rintro e w35 ⟨u, rfl, ⟨Ay, cy, By, dy, rfl, my1, my2, my3, my4, my5, my6⟩, kb⟩
       replace ms1 := ms1.on kb
       replace ms2 := ms2.on kb
       replace mh1 := mh1.on kb
       replace mh2 := mh2.on kb
       replace rf := rowIs_on rf kb
       replace rp := rowIs_on rp kb
       replace r16 := rowIs_on r16 kb
       replace r20 := rowIs_on r20 kb
       replace hD := onS hD kb
       clear kb
       rw [← HPN.out] at my1 my2 my3 my5 ⊢
       clear mh1 mh2 mh3 mh4 mh5 mh6
       refine bkq hK ⟨rp.cell (i := 0) (by omega), rp.cell (i := 1) (by omega), rp.cell (i := 2) (by omega), rf.cell (i := 3) (by omega)⟩ (h := fun hHeld => ?_)
       clear hK K
       refine tkq 6 (h := tkq 7 (h := tkq 8 (h := ?_)))
       refine rdq 10 (h := fun K hK => ?_)
       have hsz := hD.size
       have za0 := r20.frozen 0
       have za1 := r20.frozen 1
       have za2 := r20.frozen 2
       have ya0 : w35.cell? ⟨g20, 0, none⟩ = some _ := r20.cell (i := 0) (by omega)
       have ya1 : w35.cell? ⟨g20, 1, none⟩ = some _ := r20.cell (i := 1) (by omega)
       have ya2 : w35.cell? ⟨g20, 2, none⟩ = some _ := r20.cell (i := 2) (by omega)
       go_simp
       generalize hw3 : World.setCell _ _ _ = w36
       have hst : RatStored w35 (g20) 31 (rneg PN) (Ay) (dl PN.num.natAbs) (cy) (By) (dl PN.den) (dy) w36 := by rw [← hw3]; exact rat_stored r20 _ _ _ _ _ _ _
       clear hw3
       replace rf := rowIs_grown rf hst.grown (by omega)
       replace rp := rowIs_grown rp hst.grown (by omega)
       replace r16 := rowIs_grown r16 hst.grown (by omega)
       replace hD := hst.below hD (by omega) (by omega)
       replace ms1 := hst.nat _ _ _ ms1
       rw [← hst.size] at ms1
       replace ms2 := hst.nat _ _ _ ms2
       rw [← hst.size] at ms2
       replace r20 := hst.row
       replace my1 := hst.nat _ _ _ my1
       rw [← hst.size] at my1
       replace my2 := hst.nat _ _ _ my2
       rw [← hst.size] at my2
       clear hst
       clear hsz za0 za1 za2 ya0 ya1 ya2
       refine bkq hK ⟨rp.cell (i := 0) (by omega), rp.cell (i := 1) (by omega), rp.cell (i := 2) (by omega), rf.cell (i := 3) (by omega)⟩ (h := fun hHeld => ?_)
       clear hK K
       refine tkq 11 (h := ?_)
       refine wpAnyH_done (by kernel_rfl) ?_ _
       clear hHeld
       go_wp2
       go_meet
       exact ⟨g20, rfl, ⟨Ay, cy, By, dy, r20, my1, my2, my3, my4, my5, my6⟩, ⟨AS, cS, BS, dS, r16, ms1, ms2, ms3, ms4, ms5, ms6⟩, rf, rp, hD⟩
     ·go_simp
      have kb := below_one w31 (.cells #[.bool false, .slice none 0 0, .slice none 0 0] 31)
      have r20 := box_row (w := w31) (a := .bool false) (b := .slice none 0 0) (c := .slice none 0 0) (T := 31)
      have hg20 := hD.size
      have hl20rf := rf.lt
      have hl20rp := rp.lt
      have hl20r16 := r16.lt
      replace ms1 := ms1.on kb
      replace ms2 := ms2.on kb
      replace rf := rowIs_on rf kb
      replace rp := rowIs_on rp kb
      replace r16 := rowIs_on r16 kb
      replace hD := onS hD kb
      clear kb
      obtain ⟨w32, hww⟩ : ∃ W, W = World.alloc w31 (.cells #[.bool false, .slice none 0 0, .slice none 0 0] 31) := ⟨_, rfl⟩
      rw [← hww] at rf rp r16 hD ms1 ms2 r20 ⊢
      obtain ⟨g20, hgg⟩ : ∃ g, g = w31.heap.size := ⟨_, rfl⟩
      rw [← hgg] at r20 hg20 hl20rf hl20rp hl20r16 ⊢
      clear hww hgg
      refine bkq hK ⟨rp.cell (i := 0) (by omega), rp.cell (i := 1) (by omega), rp.cell (i := 2) (by omega), rf.cell (i := 3) (by omega)⟩ (h := fun hHeld => ?_)
      clear hK K
      refine rdq 0 (h := fun K hK => ?_)
      go_simp
      go_wp2_with fail
      refine (refInt_any 1 _ (by omega) (by omega)).mono ?_
      rintro e w33 ⟨Ae, ce, Be, de, rfl, me1, me2, me3, me4, me5, me6, kb⟩
      replace ms1 := ms1.on kb
      replace ms2 := ms2.on kb
      replace rf := rowIs_on rf kb
      replace rp := rowIs_on rp kb
      replace r16 := rowIs_on r16 kb
      replace r20 := rowIs_on r20 kb
      replace hD := onS hD kb
      clear kb
      obtain ⟨q1, hq⟩ : ∃ q : Rat, q = ((1 : Int) : Rat) := ⟨_, rfl⟩
      rw [← hq] at me1 me2 me3 me5 ⊢
      have HQ1 := hid hq
      clear hq
      have hsq1 : rsz q1 10 := by rw [HQ1.out]; exact ⟨by decide +kernel, by decide +kernel⟩
      refine bkq hK ⟨rp.cell (i := 0) (by omega), rp.cell (i := 1) (by omega), rp.cell (i := 2) (by omega), rf.cell (i := 3) (by omega)⟩ (h := fun hHeld => ?_)
      clear hK K
      refine rdq 2 (h := fun K hK => ?_)
      go_simp
      go_wp2_with fail
      refine (refSub02_any _ _ q1 p 10 _ (ratPost_raw me1 me2 me3 me4 me5 me6 hsq1) (HP10.out.on (onS HB.out hD)) (by omega) hsq1 (hsp.mono (by omega))).mono ?_
      rintro e w34 ⟨Ah, ch, Bh, dh, rfl, mh1, mh2, mh3, mh4, mh5, mh6, kb⟩
      replace ms1 := ms1.on kb
      replace ms2 := ms2.on kb
      replace me1 := me1.on kb
      replace me2 := me2.on kb
      replace rf := rowIs_on rf kb
      replace rp := rowIs_on rp kb
      replace r16 := rowIs_on r16 kb
      replace r20 := rowIs_on r20 kb
      replace hD := onS hD kb
      clear kb
      have hxx : q1 - p = p1 := by rw [HQ1.out, HP1.out]; rfl
      rw [hxx] at mh1 mh2 mh3 mh5 ⊢
      clear hxx
      clear me1 me2 me3 me4 me5 me6
      refine bkq hK ⟨rp.cell (i := 0) (by omega), rp.cell (i := 1) (by omega), rp.cell (i := 2) (by omega), rf.cell (i := 3) (by omega)⟩ (h := fun hHeld => ?_)
      clear hK K
      refine rdq 5 (h := fun K hK => ?_)
      go_simp
      go_wp2_with fail
      refine (refPow02_any _ p1 10 N _ (ratPost_raw mh1 mh2 mh3 mh4 mh5 mh6 hs1p) (by omega) hs1p (by omega)).mono ?_
      rintro e w35 ⟨u, rfl, ⟨Ay, cy, By, dy, rfl, my1, my2, my3, my4, my5, my6⟩, kb⟩
      replace ms1 := ms1.on kb
      replace ms2 := ms2.on kb
      replace mh1 := mh1.on kb
      replace mh2 := mh2.on kb
      replace rf := rowIs_on rf kb
      replace rp := rowIs_on rp kb
      replace r16 := rowIs_on r16 kb
      replace r20 := rowIs_on r20 kb
      replace hD := onS hD kb
      clear kb
      rw [← HPN.out] at my1 my2 my3 my5 ⊢
      clear mh1 mh2 mh3 mh4 mh5 mh6
      refine bkq hK ⟨rp.cell (i := 0) (by omega), rp.cell (i := 1) (by omega), rp.cell (i := 2) (by omega), rf.cell (i := 3) (by omega)⟩ (h := fun hHeld => ?_)
      clear hK K
      refine tkq 6 (h := tkq 7 (h := tkq 8 (h := ?_)))
      refine rdq 10 (h := fun K hK => ?_)
      have hsz := hD.size
      have za0 := r20.frozen 0
      have za1 := r20.frozen 1
      have za2 := r20.frozen 2
      have ya0 : w35.cell? ⟨g20, 0, none⟩ = some _ := r20.cell (i := 0) (by omega)
      have ya1 : w35.cell? ⟨g20, 1, none⟩ = some _ := r20.cell (i := 1) (by omega)
      have ya2 : w35.cell? ⟨g20, 2, none⟩ = some _ := r20.cell (i := 2) (by omega)
      go_simp
      generalize hw3 : World.setCell _ _ _ = w36
      have hst : RatStored w35 (g20) 31 (rneg PN) (Ay) (dl PN.num.natAbs) (cy) (By) (dl PN.den) (dy) w36 := by rw [← hw3]; exact rat_stored r20 _ _ _ _ _ _ _
      clear hw3
      replace rf := rowIs_grown rf hst.grown (by omega)
      replace rp := rowIs_grown rp hst.grown (by omega)
      replace r16 := rowIs_grown r16 hst.grown (by omega)
      replace hD := hst.below hD (by omega) (by omega)
      replace ms1 := hst.nat _ _ _ ms1
      rw [← hst.size] at ms1
      replace ms2 := hst.nat _ _ _ ms2
      rw [← hst.size] at ms2
      replace r20 := hst.row
      replace my1 := hst.nat _ _ _ my1
      rw [← hst.size] at my1
      replace my2 := hst.nat _ _ _ my2
      rw [← hst.size] at my2
      clear hst
      clear hsz za0 za1 za2 ya0 ya1 ya2
      refine bkq hK ⟨rp.cell (i := 0) (by omega), rp.cell (i := 1) (by omega), rp.cell (i := 2) (by omega), rf.cell (i := 3) (by omega)⟩ (h := fun hHeld => ?_)
      clear hK K
      refine tkq 11 (h := ?_)
      refine wpAnyH_done (by kernel_rfl) ?_ _
      clear hHeld
      go_wp2
      go_meet
      exact ⟨g20, rfl, ⟨Ay, cy, By, dy, r20, my1, my2, my3, my4, my5, my6⟩, ⟨AS, cS, BS, dS, r16, ms1, ms2, ms3, ms4, ms5, ms6⟩, rf, rp, hD⟩
    case rest =>
     clear ms1 ms2 ms3 ms4 ms5 ms6 r16 rf rp hD
     obtain ⟨g20, rfl, hPN20, hS16, rf, rp, hD⟩ := hcut
     obtain ⟨w18, hw18⟩ : ∃ W, W = wc := ⟨_, rfl⟩
     rw [← hw18] at hPN20 hS16 rf rp hD ⊢
     clear hw18
     obtain ⟨AS, cS, BS, dS, r16, ms1, ms2, ms3, ms4, ms5, ms6⟩ := hS16
     obtain ⟨AQ, cQ, BQ, dQ, r20, mq1, mq2, mq3, mq4, mq5, mq6⟩ := hPN20
     go_upto_region 19 with fail
     go_cut [22] (fun v22 wx => ∃ g, v22 = .pointer (some ⟨g, 0, none⟩) ∧ RatBox wx g 31 WT ∧ wx.rowIs (w.heap.size + 1) 31 3 (ratCell (.bool s) (.slice XA xl xc) (.slice XB yl yc)) ∧ Below w12.heap.size w12 wx)
     case first =>
      refine wp_region_held_drew (S := fun w' => w'.cell? ⟨g16, 0, none⟩ = some (.bool (rneg S1)) ∧ w'.cell? ⟨g16, 1, none⟩ = some (.slice (AS) (dl S1.num.natAbs) (cS)) ∧ w'.cell? ⟨g16, 2, none⟩ = some (.slice (BS) (dl S1.den) (dS)) ∧ w'.cell? ⟨g20, 0, none⟩ = some (.bool (rneg PN)) ∧ w'.cell? ⟨g20, 1, none⟩ = some (.slice (AQ) (dl PN.num.natAbs) (cQ)) ∧ w'.cell? ⟨g20, 2, none⟩ = some (.slice (BQ) (dl PN.den) (dQ))) (by kernel_rfl) ⟨cellS (Below.refl _ _).drew (r16.cell (i := 0) (by omega)), cellS (Below.refl _ _).drew (r16.cell (i := 1) (by omega)), cellS (Below.refl _ _).drew (r16.cell (i := 2) (by omega)), cellS (Below.refl _ _).drew (r20.cell (i := 0) (by omega)), cellS (Below.refl _ _).drew (r20.cell (i := 1) (by omega)), cellS (Below.refl _ _).drew (r20.cell (i := 2) (by omega))⟩ (fun hHeld => ?_)
      obtain ⟨w19, hw⟩ : ∃ W, W = World.drew w18 := ⟨_, rfl⟩
      have kb : Below w18.heap.size w18 w19 := by rw [hw]; exact (Below.refl _ _).drew
      rw [← hw] at hHeld ⊢
      clear hw
      replace ms1 := ms1.on kb
      replace ms2 := ms2.on kb
      replace mq1 := mq1.on kb
      replace mq2 := mq2.on kb
      replace rp := rowIs_on rp kb
      replace r16 := rowIs_on r16 kb
      replace r20 := rowIs_on r20 kb
      replace hD := onS hD kb
      clear kb
      refine tkq 0 (h := tkq 1 (h := tkq 2 (h := tkq 5 (h := ?_))))
      refine rdq2 3 7 (h := fun K hK => ?_) (h2 := fun K hK => ?_)
      ·go_simp
       go_wp2_with fail
       refine (refOf02_any 1 (L2 : Int) _ (by omega) (by omega) (by omega) (by omega)).mono ?_
       rintro e w20 ⟨Af, cf, Bf, df, rfl, mf1, mf2, mf3, mf4, mf5, mf6, kb⟩
       replace ms1 := ms1.on kb
       replace ms2 := ms2.on kb
       replace mq1 := mq1.on kb
       replace mq2 := mq2.on kb
       replace rp := rowIs_on rp kb
       replace r16 := rowIs_on r16 kb
       replace r20 := rowIs_on r20 kb
       replace hD := onS hD kb
       clear kb
       rw [HOL.out] at mf1 mf2 mf3 mf5 ⊢
       refine bkq hK ⟨r16.cell (i := 0) (by omega), r16.cell (i := 1) (by omega), r16.cell (i := 2) (by omega), r20.cell (i := 0) (by omega), r20.cell (i := 1) (by omega), r20.cell (i := 2) (by omega)⟩ (h := fun hHeld => ?_)
       clear hK K
       refine rdq2 4 7 (h := fun K hK => ?_) (h2 := fun K hK => ?_)
       ·go_simp
        go_wp2_with fail
        refine (refMul02_any _ _ S1 il 2000 _ (ratPost_raw ms1 ms2 ms3 ms4 ms5 ms6 hsS) (ratPost_raw mf1 mf2 mf3 mf4 mf5 mf6 (hdl.mono (by omega))) (by omega) hsS (hdl.mono (by omega))).mono ?_
        rintro e w21 ⟨Ag, cg, Bg, dg, rfl, mg1, mg2, mg3, mg4, mg5, mg6, kb⟩
        replace ms1 := ms1.on kb
        replace ms2 := ms2.on kb
        replace mq1 := mq1.on kb
        replace mq2 := mq2.on kb
        replace mf1 := mf1.on kb
        replace mf2 := mf2.on kb
        replace rp := rowIs_on rp kb
        replace r16 := rowIs_on r16 kb
        replace r20 := rowIs_on r20 kb
        replace hD := onS hD kb
        clear kb
        rw [← HSI.out] at mg1 mg2 mg3 mg5 ⊢
        clear mf1 mf2 mf3 mf4 mf5 mf6
        refine bkq hK ⟨r16.cell (i := 0) (by omega), r16.cell (i := 1) (by omega), r16.cell (i := 2) (by omega), r20.cell (i := 0) (by omega), r20.cell (i := 1) (by omega), r20.cell (i := 2) (by omega)⟩ (h := fun hHeld => ?_)
        clear hK K
        refine rdq2 6 7 (h := fun K hK => ?_) (h2 := fun K hK => ?_)
        ·go_simp
         go_wp2_with fail
         refine (refSub02_any _ _ SI PN 2002 _ (ratPost_raw mg1 mg2 mg3 mg4 mg5 mg6 hsSI) (ratPost_raw mq1 mq2 mq3 mq4 mq5 mq6 (hsPN.mono (by omega))) (by omega) hsSI (hsPN.mono (by omega))).mono ?_
         rintro e w22 ⟨Ah, ch, Bh, dh, rfl, mh1, mh2, mh3, mh4, mh5, mh6, kb⟩
         replace ms1 := ms1.on kb
         replace ms2 := ms2.on kb
         replace mq1 := mq1.on kb
         replace mq2 := mq2.on kb
         replace mg1 := mg1.on kb
         replace mg2 := mg2.on kb
         replace rp := rowIs_on rp kb
         replace r16 := rowIs_on r16 kb
         replace r20 := rowIs_on r20 kb
         replace hD := onS hD kb
         clear kb
         rw [← HWT.out] at mh1 mh2 mh3 mh5 ⊢
         clear mg1 mg2 mg3 mg4 mg5 mg6
         refine bkq hK ⟨r16.cell (i := 0) (by omega), r16.cell (i := 1) (by omega), r16.cell (i := 2) (by omega), r20.cell (i := 0) (by omega), r20.cell (i := 1) (by omega), r20.cell (i := 2) (by omega)⟩ (h := fun hHeld => ?_)
         clear hK K
         refine rdq 7 (h := fun K hK => ?_)
         go_simp
         have kb := below_one w22 (.cells #[.bool false, .slice none 0 0, .slice none 0 0] 31)
         have r22 := box_row (w := w22) (a := .bool false) (b := .slice none 0 0) (c := .slice none 0 0) (T := 31)
         have hg22 := hD.size
         have hl22rp := rp.lt
         have hl22r16 := r16.lt
         have hl22r20 := r20.lt
         replace ms1 := ms1.on kb
         replace ms2 := ms2.on kb
         replace mq1 := mq1.on kb
         replace mq2 := mq2.on kb
         replace mh1 := mh1.on kb
         replace mh2 := mh2.on kb
         replace rp := rowIs_on rp kb
         replace r16 := rowIs_on r16 kb
         replace r20 := rowIs_on r20 kb
         replace hD := onS hD kb
         clear kb
         obtain ⟨w23, hww⟩ : ∃ W, W = World.alloc w22 (.cells #[.bool false, .slice none 0 0, .slice none 0 0] 31) := ⟨_, rfl⟩
         rw [← hww] at rp r16 r20 hD ms1 ms2 mq1 mq2 mh1 mh2 r22 ⊢
         obtain ⟨g22, hgg⟩ : ∃ g, g = w22.heap.size := ⟨_, rfl⟩
         rw [← hgg] at r22 hg22 hl22rp hl22r16 hl22r20 ⊢
         clear hww hgg
         refine bkq hK ⟨r16.cell (i := 0) (by omega), r16.cell (i := 1) (by omega), r16.cell (i := 2) (by omega), r20.cell (i := 0) (by omega), r20.cell (i := 1) (by omega), r20.cell (i := 2) (by omega)⟩ (h := fun hHeld => ?_)
         clear hK K
         refine rdq 8 (h := fun K hK => ?_)
         have hsz := hD.size
         have za0 := r22.frozen 0
         have za1 := r22.frozen 1
         have za2 := r22.frozen 2
         have ya0 : w23.cell? ⟨g22, 0, none⟩ = some _ := r22.cell (i := 0) (by omega)
         have ya1 : w23.cell? ⟨g22, 1, none⟩ = some _ := r22.cell (i := 1) (by omega)
         have ya2 : w23.cell? ⟨g22, 2, none⟩ = some _ := r22.cell (i := 2) (by omega)
         go_simp
         generalize hw3 : World.setCell _ _ _ = w24
         have hst : RatStored w23 (g22) 31 (rneg WT) (Ah) (dl WT.num.natAbs) (ch) (Bh) (dl WT.den) (dh) w24 := by rw [← hw3]; exact rat_stored r22 _ _ _ _ _ _ _
         clear hw3
         replace rp := rowIs_grown rp hst.grown (by omega)
         replace r16 := rowIs_grown r16 hst.grown (by omega)
         replace r20 := rowIs_grown r20 hst.grown (by omega)
         replace hD := hst.below hD (by omega) (by omega)
         replace ms1 := hst.nat _ _ _ ms1
         rw [← hst.size] at ms1
         replace ms2 := hst.nat _ _ _ ms2
         rw [← hst.size] at ms2
         replace mq1 := hst.nat _ _ _ mq1
         rw [← hst.size] at mq1
         replace mq2 := hst.nat _ _ _ mq2
         rw [← hst.size] at mq2
         replace mh1 := hst.nat _ _ _ mh1
         rw [← hst.size] at mh1
         replace mh2 := hst.nat _ _ _ mh2
         rw [← hst.size] at mh2
         replace r22 := hst.row
         clear hst
         clear hsz za0 za1 za2 ya0 ya1 ya2
         refine bkq hK ⟨r16.cell (i := 0) (by omega), r16.cell (i := 1) (by omega), r16.cell (i := 2) (by omega), r20.cell (i := 0) (by omega), r20.cell (i := 1) (by omega), r20.cell (i := 2) (by omega)⟩ (h := fun hHeld => ?_)
         clear hK K
         refine wpAnyH_done (by kernel_rfl) ?_ _
         clear hHeld
         go_wp2
         go_meet
         exact ⟨g22, rfl, ⟨Ah, ch, Bh, dh, r22, mh1, mh2, mh3, mh4, mh5, mh6⟩, rp, hD⟩
        ·go_simp
         have kb := below_one w21 (.cells #[.bool false, .slice none 0 0, .slice none 0 0] 31)
         have r22 := box_row (w := w21) (a := .bool false) (b := .slice none 0 0) (c := .slice none 0 0) (T := 31)
         have hg22 := hD.size
         have hl22rp := rp.lt
         have hl22r16 := r16.lt
         have hl22r20 := r20.lt
         replace ms1 := ms1.on kb
         replace ms2 := ms2.on kb
         replace mq1 := mq1.on kb
         replace mq2 := mq2.on kb
         replace mg1 := mg1.on kb
         replace mg2 := mg2.on kb
         replace rp := rowIs_on rp kb
         replace r16 := rowIs_on r16 kb
         replace r20 := rowIs_on r20 kb
         replace hD := onS hD kb
         clear kb
         obtain ⟨w22, hww⟩ : ∃ W, W = World.alloc w21 (.cells #[.bool false, .slice none 0 0, .slice none 0 0] 31) := ⟨_, rfl⟩
         rw [← hww] at rp r16 r20 hD ms1 ms2 mq1 mq2 mg1 mg2 r22 ⊢
         obtain ⟨g22, hgg⟩ : ∃ g, g = w21.heap.size := ⟨_, rfl⟩
         rw [← hgg] at r22 hg22 hl22rp hl22r16 hl22r20 ⊢
         clear hww hgg
         refine bkq hK ⟨r16.cell (i := 0) (by omega), r16.cell (i := 1) (by omega), r16.cell (i := 2) (by omega), r20.cell (i := 0) (by omega), r20.cell (i := 1) (by omega), r20.cell (i := 2) (by omega)⟩ (h := fun hHeld => ?_)
         clear hK K
         refine rdq 6 (h := fun K hK => ?_)
         go_simp
         go_wp2_with fail
         refine (refSub02_any _ _ SI PN 2002 _ (ratPost_raw mg1 mg2 mg3 mg4 mg5 mg6 hsSI) (ratPost_raw mq1 mq2 mq3 mq4 mq5 mq6 (hsPN.mono (by omega))) (by omega) hsSI (hsPN.mono (by omega))).mono ?_
         rintro e w23 ⟨Ah, ch, Bh, dh, rfl, mh1, mh2, mh3, mh4, mh5, mh6, kb⟩
         replace ms1 := ms1.on kb
         replace ms2 := ms2.on kb
         replace mq1 := mq1.on kb
         replace mq2 := mq2.on kb
         replace mg1 := mg1.on kb
         replace mg2 := mg2.on kb
         replace rp := rowIs_on rp kb
         replace r16 := rowIs_on r16 kb
         replace r20 := rowIs_on r20 kb
         replace r22 := rowIs_on r22 kb
         replace hD := onS hD kb
         clear kb
         rw [← HWT.out] at mh1 mh2 mh3 mh5 ⊢
         clear mg1 mg2 mg3 mg4 mg5 mg6
         refine bkq hK ⟨r16.cell (i := 0) (by omega), r16.cell (i := 1) (by omega), r16.cell (i := 2) (by omega), r20.cell (i := 0) (by omega), r20.cell (i := 1) (by omega), r20.cell (i := 2) (by omega)⟩ (h := fun hHeld => ?_)
         clear hK K
         refine rdq 8 (h := fun K hK => ?_)
         have hsz := hD.size
         have za0 := r22.frozen 0
         have za1 := r22.frozen 1
         have za2 := r22.frozen 2
         have ya0 : w23.cell? ⟨g22, 0, none⟩ = some _ := r22.cell (i := 0) (by omega)
         have ya1 : w23.cell? ⟨g22, 1, none⟩ = some _ := r22.cell (i := 1) (by omega)
         have ya2 : w23.cell? ⟨g22, 2, none⟩ = some _ := r22.cell (i := 2) (by omega)
         go_simp
         generalize hw3 : World.setCell _ _ _ = w24
         have hst : RatStored w23 (g22) 31 (rneg WT) (Ah) (dl WT.num.natAbs) (ch) (Bh) (dl WT.den) (dh) w24 := by rw [← hw3]; exact rat_stored r22 _ _ _ _ _ _ _
         clear hw3
         replace rp := rowIs_grown rp hst.grown (by omega)
         replace r16 := rowIs_grown r16 hst.grown (by omega)
         replace r20 := rowIs_grown r20 hst.grown (by omega)
         replace hD := hst.below hD (by omega) (by omega)
         replace ms1 := hst.nat _ _ _ ms1
         rw [← hst.size] at ms1
         replace ms2 := hst.nat _ _ _ ms2
         rw [← hst.size] at ms2
         replace mq1 := hst.nat _ _ _ mq1
         rw [← hst.size] at mq1
         replace mq2 := hst.nat _ _ _ mq2
         rw [← hst.size] at mq2
         replace r22 := hst.row
         replace mh1 := hst.nat _ _ _ mh1
         rw [← hst.size] at mh1
         replace mh2 := hst.nat _ _ _ mh2
         rw [← hst.size] at mh2
         clear hst
         clear hsz za0 za1 za2 ya0 ya1 ya2
         refine bkq hK ⟨r16.cell (i := 0) (by omega), r16.cell (i := 1) (by omega), r16.cell (i := 2) (by omega), r20.cell (i := 0) (by omega), r20.cell (i := 1) (by omega), r20.cell (i := 2) (by omega)⟩ (h := fun hHeld => ?_)
         clear hK K
         refine wpAnyH_done (by kernel_rfl) ?_ _
         clear hHeld
         go_wp2
         go_meet
         exact ⟨g22, rfl, ⟨Ah, ch, Bh, dh, r22, mh1, mh2, mh3, mh4, mh5, mh6⟩, rp, hD⟩
       ·go_simp
        have kb := below_one w20 (.cells #[.bool false, .slice none 0 0, .slice none 0 0] 31)
        have r22 := box_row (w := w20) (a := .bool false) (b := .slice none 0 0) (c := .slice none 0 0) (T := 31)
        have hg22 := hD.size
        have hl22rp := rp.lt
        have hl22r16 := r16.lt
        have hl22r20 := r20.lt
        replace ms1 := ms1.on kb
        replace ms2 := ms2.on kb
        replace mq1 := mq1.on kb
        replace mq2 := mq2.on kb
        replace mf1 := mf1.on kb
        replace mf2 := mf2.on kb
        replace rp := rowIs_on rp kb
        replace r16 := rowIs_on r16 kb
        replace r20 := rowIs_on r20 kb
        replace hD := onS hD kb
        clear kb
        obtain ⟨w21, hww⟩ : ∃ W, W = World.alloc w20 (.cells #[.bool false, .slice none 0 0, .slice none 0 0] 31) := ⟨_, rfl⟩
        rw [← hww] at rp r16 r20 hD ms1 ms2 mq1 mq2 mf1 mf2 r22 ⊢
        obtain ⟨g22, hgg⟩ : ∃ g, g = w20.heap.size := ⟨_, rfl⟩
        rw [← hgg] at r22 hg22 hl22rp hl22r16 hl22r20 ⊢
        clear hww hgg
        refine bkq hK ⟨r16.cell (i := 0) (by omega), r16.cell (i := 1) (by omega), r16.cell (i := 2) (by omega), r20.cell (i := 0) (by omega), r20.cell (i := 1) (by omega), r20.cell (i := 2) (by omega)⟩ (h := fun hHeld => ?_)
        clear hK K
        refine rdq 4 (h := fun K hK => ?_)
        go_simp
        go_wp2_with fail
        refine (refMul02_any _ _ S1 il 2000 _ (ratPost_raw ms1 ms2 ms3 ms4 ms5 ms6 hsS) (ratPost_raw mf1 mf2 mf3 mf4 mf5 mf6 (hdl.mono (by omega))) (by omega) hsS (hdl.mono (by omega))).mono ?_
        rintro e w22 ⟨Ag, cg, Bg, dg, rfl, mg1, mg2, mg3, mg4, mg5, mg6, kb⟩
        replace ms1 := ms1.on kb
        replace ms2 := ms2.on kb
        replace mq1 := mq1.on kb
        replace mq2 := mq2.on kb
        replace mf1 := mf1.on kb
        replace mf2 := mf2.on kb
        replace rp := rowIs_on rp kb
        replace r16 := rowIs_on r16 kb
        replace r20 := rowIs_on r20 kb
        replace r22 := rowIs_on r22 kb
        replace hD := onS hD kb
        clear kb
        rw [← HSI.out] at mg1 mg2 mg3 mg5 ⊢
        clear mf1 mf2 mf3 mf4 mf5 mf6
        refine bkq hK ⟨r16.cell (i := 0) (by omega), r16.cell (i := 1) (by omega), r16.cell (i := 2) (by omega), r20.cell (i := 0) (by omega), r20.cell (i := 1) (by omega), r20.cell (i := 2) (by omega)⟩ (h := fun hHeld => ?_)
        clear hK K
        refine rdq 6 (h := fun K hK => ?_)
        go_simp
        go_wp2_with fail
        refine (refSub02_any _ _ SI PN 2002 _ (ratPost_raw mg1 mg2 mg3 mg4 mg5 mg6 hsSI) (ratPost_raw mq1 mq2 mq3 mq4 mq5 mq6 (hsPN.mono (by omega))) (by omega) hsSI (hsPN.mono (by omega))).mono ?_
        rintro e w23 ⟨Ah, ch, Bh, dh, rfl, mh1, mh2, mh3, mh4, mh5, mh6, kb⟩
        replace ms1 := ms1.on kb
        replace ms2 := ms2.on kb
        replace mq1 := mq1.on kb
        replace mq2 := mq2.on kb
        replace mg1 := mg1.on kb
        replace mg2 := mg2.on kb
        replace rp := rowIs_on rp kb
        replace r16 := rowIs_on r16 kb
        replace r20 := rowIs_on r20 kb
        replace r22 := rowIs_on r22 kb
        replace hD := onS hD kb
        clear kb
        rw [← HWT.out] at mh1 mh2 mh3 mh5 ⊢
        clear mg1 mg2 mg3 mg4 mg5 mg6
        refine bkq hK ⟨r16.cell (i := 0) (by omega), r16.cell (i := 1) (by omega), r16.cell (i := 2) (by omega), r20.cell (i := 0) (by omega), r20.cell (i := 1) (by omega), r20.cell (i := 2) (by omega)⟩ (h := fun hHeld => ?_)
        clear hK K
        refine rdq 8 (h := fun K hK => ?_)
        have hsz := hD.size
        have za0 := r22.frozen 0
        have za1 := r22.frozen 1
        have za2 := r22.frozen 2
        have ya0 : w23.cell? ⟨g22, 0, none⟩ = some _ := r22.cell (i := 0) (by omega)
        have ya1 : w23.cell? ⟨g22, 1, none⟩ = some _ := r22.cell (i := 1) (by omega)
        have ya2 : w23.cell? ⟨g22, 2, none⟩ = some _ := r22.cell (i := 2) (by omega)
        go_simp
        generalize hw3 : World.setCell _ _ _ = w24
        have hst : RatStored w23 (g22) 31 (rneg WT) (Ah) (dl WT.num.natAbs) (ch) (Bh) (dl WT.den) (dh) w24 := by rw [← hw3]; exact rat_stored r22 _ _ _ _ _ _ _
        clear hw3
        replace rp := rowIs_grown rp hst.grown (by omega)
        replace r16 := rowIs_grown r16 hst.grown (by omega)
        replace r20 := rowIs_grown r20 hst.grown (by omega)
        replace hD := hst.below hD (by omega) (by omega)
        replace ms1 := hst.nat _ _ _ ms1
        rw [← hst.size] at ms1
        replace ms2 := hst.nat _ _ _ ms2
        rw [← hst.size] at ms2
        replace mq1 := hst.nat _ _ _ mq1
        rw [← hst.size] at mq1
        replace mq2 := hst.nat _ _ _ mq2
        rw [← hst.size] at mq2
        replace r22 := hst.row
        replace mh1 := hst.nat _ _ _ mh1
        rw [← hst.size] at mh1
        replace mh2 := hst.nat _ _ _ mh2
        rw [← hst.size] at mh2
        clear hst
        clear hsz za0 za1 za2 ya0 ya1 ya2
        refine bkq hK ⟨r16.cell (i := 0) (by omega), r16.cell (i := 1) (by omega), r16.cell (i := 2) (by omega), r20.cell (i := 0) (by omega), r20.cell (i := 1) (by omega), r20.cell (i := 2) (by omega)⟩ (h := fun hHeld => ?_)
        clear hK K
        refine wpAnyH_done (by kernel_rfl) ?_ _
        clear hHeld
        go_wp2
        go_meet
        exact ⟨g22, rfl, ⟨Ah, ch, Bh, dh, r22, mh1, mh2, mh3, mh4, mh5, mh6⟩, rp, hD⟩
      ·go_simp
       have kb := below_one w19 (.cells #[.bool false, .slice none 0 0, .slice none 0 0] 31)
       have r22 := box_row (w := w19) (a := .bool false) (b := .slice none 0 0) (c := .slice none 0 0) (T := 31)
       have hg22 := hD.size
       have hl22rp := rp.lt
       have hl22r16 := r16.lt
       have hl22r20 := r20.lt
       replace ms1 := ms1.on kb
       replace ms2 := ms2.on kb
       replace mq1 := mq1.on kb
       replace mq2 := mq2.on kb
       replace rp := rowIs_on rp kb
       replace r16 := rowIs_on r16 kb
       replace r20 := rowIs_on r20 kb
       replace hD := onS hD kb
       clear kb
       obtain ⟨w20, hww⟩ : ∃ W, W = World.alloc w19 (.cells #[.bool false, .slice none 0 0, .slice none 0 0] 31) := ⟨_, rfl⟩
       rw [← hww] at rp r16 r20 hD ms1 ms2 mq1 mq2 r22 ⊢
       obtain ⟨g22, hgg⟩ : ∃ g, g = w19.heap.size := ⟨_, rfl⟩
       rw [← hgg] at r22 hg22 hl22rp hl22r16 hl22r20 ⊢
       clear hww hgg
       refine bkq hK ⟨r16.cell (i := 0) (by omega), r16.cell (i := 1) (by omega), r16.cell (i := 2) (by omega), r20.cell (i := 0) (by omega), r20.cell (i := 1) (by omega), r20.cell (i := 2) (by omega)⟩ (h := fun hHeld => ?_)
       clear hK K
       refine rdq 3 (h := fun K hK => ?_)
       go_simp
       go_wp2_with fail
       refine (refOf02_any 1 (L2 : Int) _ (by omega) (by omega) (by omega) (by omega)).mono ?_
       rintro e w21 ⟨Af, cf, Bf, df, rfl, mf1, mf2, mf3, mf4, mf5, mf6, kb⟩
       replace ms1 := ms1.on kb
       replace ms2 := ms2.on kb
       replace mq1 := mq1.on kb
       replace mq2 := mq2.on kb
       replace rp := rowIs_on rp kb
       replace r16 := rowIs_on r16 kb
       replace r20 := rowIs_on r20 kb
       replace r22 := rowIs_on r22 kb
       replace hD := onS hD kb
       clear kb
       rw [HOL.out] at mf1 mf2 mf3 mf5 ⊢
       refine bkq hK ⟨r16.cell (i := 0) (by omega), r16.cell (i := 1) (by omega), r16.cell (i := 2) (by omega), r20.cell (i := 0) (by omega), r20.cell (i := 1) (by omega), r20.cell (i := 2) (by omega)⟩ (h := fun hHeld => ?_)
       clear hK K
       refine rdq 4 (h := fun K hK => ?_)
       go_simp
       go_wp2_with fail
       refine (refMul02_any _ _ S1 il 2000 _ (ratPost_raw ms1 ms2 ms3 ms4 ms5 ms6 hsS) (ratPost_raw mf1 mf2 mf3 mf4 mf5 mf6 (hdl.mono (by omega))) (by omega) hsS (hdl.mono (by omega))).mono ?_
       rintro e w22 ⟨Ag, cg, Bg, dg, rfl, mg1, mg2, mg3, mg4, mg5, mg6, kb⟩
       replace ms1 := ms1.on kb
       replace ms2 := ms2.on kb
       replace mq1 := mq1.on kb
       replace mq2 := mq2.on kb
       replace mf1 := mf1.on kb
       replace mf2 := mf2.on kb
       replace rp := rowIs_on rp kb
       replace r16 := rowIs_on r16 kb
       replace r20 := rowIs_on r20 kb
       replace r22 := rowIs_on r22 kb
       replace hD := onS hD kb
       clear kb
       rw [← HSI.out] at mg1 mg2 mg3 mg5 ⊢
       clear mf1 mf2 mf3 mf4 mf5 mf6
       refine bkq hK ⟨r16.cell (i := 0) (by omega), r16.cell (i := 1) (by omega), r16.cell (i := 2) (by omega), r20.cell (i := 0) (by omega), r20.cell (i := 1) (by omega), r20.cell (i := 2) (by omega)⟩ (h := fun hHeld => ?_)
       clear hK K
       refine rdq 6 (h := fun K hK => ?_)
       go_simp
       go_wp2_with fail
       refine (refSub02_any _ _ SI PN 2002 _ (ratPost_raw mg1 mg2 mg3 mg4 mg5 mg6 hsSI) (ratPost_raw mq1 mq2 mq3 mq4 mq5 mq6 (hsPN.mono (by omega))) (by omega) hsSI (hsPN.mono (by omega))).mono ?_
       rintro e w23 ⟨Ah, ch, Bh, dh, rfl, mh1, mh2, mh3, mh4, mh5, mh6, kb⟩
       replace ms1 := ms1.on kb
       replace ms2 := ms2.on kb
       replace mq1 := mq1.on kb
       replace mq2 := mq2.on kb
       replace mg1 := mg1.on kb
       replace mg2 := mg2.on kb
       replace rp := rowIs_on rp kb
       replace r16 := rowIs_on r16 kb
       replace r20 := rowIs_on r20 kb
       replace r22 := rowIs_on r22 kb
       replace hD := onS hD kb
       clear kb
       rw [← HWT.out] at mh1 mh2 mh3 mh5 ⊢
       clear mg1 mg2 mg3 mg4 mg5 mg6
       refine bkq hK ⟨r16.cell (i := 0) (by omega), r16.cell (i := 1) (by omega), r16.cell (i := 2) (by omega), r20.cell (i := 0) (by omega), r20.cell (i := 1) (by omega), r20.cell (i := 2) (by omega)⟩ (h := fun hHeld => ?_)
       clear hK K
       refine rdq 8 (h := fun K hK => ?_)
       have hsz := hD.size
       have za0 := r22.frozen 0
       have za1 := r22.frozen 1
       have za2 := r22.frozen 2
       have ya0 : w23.cell? ⟨g22, 0, none⟩ = some _ := r22.cell (i := 0) (by omega)
       have ya1 : w23.cell? ⟨g22, 1, none⟩ = some _ := r22.cell (i := 1) (by omega)
       have ya2 : w23.cell? ⟨g22, 2, none⟩ = some _ := r22.cell (i := 2) (by omega)
       go_simp
       generalize hw3 : World.setCell _ _ _ = w24
       have hst : RatStored w23 (g22) 31 (rneg WT) (Ah) (dl WT.num.natAbs) (ch) (Bh) (dl WT.den) (dh) w24 := by rw [← hw3]; exact rat_stored r22 _ _ _ _ _ _ _
       clear hw3
       replace rp := rowIs_grown rp hst.grown (by omega)
       replace r16 := rowIs_grown r16 hst.grown (by omega)
       replace r20 := rowIs_grown r20 hst.grown (by omega)
       replace hD := hst.below hD (by omega) (by omega)
       replace ms1 := hst.nat _ _ _ ms1
       rw [← hst.size] at ms1
       replace ms2 := hst.nat _ _ _ ms2
       rw [← hst.size] at ms2
       replace mq1 := hst.nat _ _ _ mq1
       rw [← hst.size] at mq1
       replace mq2 := hst.nat _ _ _ mq2
       rw [← hst.size] at mq2
       replace r22 := hst.row
       replace mh1 := hst.nat _ _ _ mh1
       rw [← hst.size] at mh1
       replace mh2 := hst.nat _ _ _ mh2
       rw [← hst.size] at mh2
       clear hst
       clear hsz za0 za1 za2 ya0 ya1 ya2
       refine bkq hK ⟨r16.cell (i := 0) (by omega), r16.cell (i := 1) (by omega), r16.cell (i := 2) (by omega), r20.cell (i := 0) (by omega), r20.cell (i := 1) (by omega), r20.cell (i := 2) (by omega)⟩ (h := fun hHeld => ?_)
       clear hK K
       refine wpAnyH_done (by kernel_rfl) ?_ _
       clear hHeld
       go_wp2
       go_meet
       exact ⟨g22, rfl, ⟨Ah, ch, Bh, dh, r22, mh1, mh2, mh3, mh4, mh5, mh6⟩, rp, hD⟩
     case rest =>
      clear ms1 ms2 ms3 ms4 ms5 ms6 r16 mq1 mq2 mq3 mq4 mq5 mq6 r20 rf rp hD
      obtain ⟨g22, rfl, hW22, rp, hD⟩ := hcut
      obtain ⟨w19, hw19⟩ : ∃ W, W = wc := ⟨_, rfl⟩
      rw [← hw19] at hW22 rp hD ⊢
      clear hw19
      obtain ⟨AW, cW, BW, dW, r22, mw1, mw2, mw3, mw4, mw5, mw6⟩ := hW22
      have hUL14 : UL ≤ 14 := by omega
      have hfit : EvalFits US UL p 100000 := evalFits (E := 7000) (N := 4) hur hsp (by have h1 : UL * 4 ≤ 14 * 4 := Nat.mul_le_mul_right 4 hUL14; have : UL * (UL * 4 + 7000 + 4 + 3) ≤ 14 * (14 * 4 + 7000 + 4 + 3) := Nat.mul_le_mul hUL14 (by omega); omega) (by omega)
      have HFIT := hid hfit
      have hut := u3.tab (fun i hi => (hur i hi).mono (show 7000 ≤ 100000 by omega))
      have HUT := hid hut
      have HPK := hid (HPR.out.mono (show 4 ≤ 100000 by omega))
      clear hfit hut hur u3
      go_upto_region 20 with fail
      refine wp_region_held_drew (S := fun w' => w'.cell? ⟨w.heap.size + 1, 0, none⟩ = some (.bool (s)) ∧ w'.cell? ⟨w.heap.size + 1, 1, none⟩ = some (.slice (XA) (xl) (xc)) ∧ w'.cell? ⟨w.heap.size + 1, 2, none⟩ = some (.slice (XB) (yl) (yc)) ∧ w'.cell? ⟨g22, 0, none⟩ = some (.bool (rneg WT)) ∧ w'.cell? ⟨g22, 1, none⟩ = some (.slice (AW) (dl WT.num.natAbs) (cW)) ∧ w'.cell? ⟨g22, 2, none⟩ = some (.slice (BW) (dl WT.den) (dW))) (by kernel_rfl) ⟨cellS (Below.refl _ _).drew (rp.cell (i := 0) (by omega)), cellS (Below.refl _ _).drew (rp.cell (i := 1) (by omega)), cellS (Below.refl _ _).drew (rp.cell (i := 2) (by omega)), cellS (Below.refl _ _).drew (r22.cell (i := 0) (by omega)), cellS (Below.refl _ _).drew (r22.cell (i := 1) (by omega)), cellS (Below.refl _ _).drew (r22.cell (i := 2) (by omega))⟩ (fun hHeld => ?_)
      obtain ⟨w20, hw⟩ : ∃ W, W = World.drew w19 := ⟨_, rfl⟩
      have kb : Below w19.heap.size w19 w20 := by rw [hw]; exact (Below.refl _ _).drew
      rw [← hw] at hHeld ⊢
      clear hw
      replace mw1 := mw1.on kb
      replace mw2 := mw2.on kb
      replace rp := rowIs_on rp kb
      replace r22 := rowIs_on r22 kb
      replace hD := onS hD kb
      clear kb
      refine tkq 0 (h := tkq 1 (h := tkq 2 (h := tkq 3 (h := tkq 4 (h := tkq 6 (h := ?_))))))
      refine rdq 5 (h := fun K hK => ?_)
      go_simp
      go_wp2_with fail
      refine (chEval_fit (HUT.out.on hD) (HPK.out.on (onS HB.out hD)) (by omega) (by omega) HFIT.out).mono ?_
      rintro e w21 ⟨Ae, ce, Be, de, rfl, me1, me2, me3, me4, me5, me6, kb⟩
      replace mw1 := mw1.on kb
      replace mw2 := mw2.on kb
      replace rp := rowIs_on rp kb
      replace r22 := rowIs_on r22 kb
      replace hD := onS hD kb
      clear kb
      rw [HEQ.out] at me1 me2 me3 me5 ⊢
      refine bkq hK ⟨rp.cell (i := 0) (by omega), rp.cell (i := 1) (by omega), rp.cell (i := 2) (by omega), r22.cell (i := 0) (by omega), r22.cell (i := 1) (by omega), r22.cell (i := 2) (by omega)⟩ (h := fun hHeld => ?_)
      clear hK K
      refine rdq 7 (h := fun K hK => ?_)
      go_simp
      go_wp2_with fail
      refine (refSame02_any _ _ _ _ _ _ _ _ WT 5000 _ me1 me2 mw1 mw2 (by omega) hsW).mono ?_
      rintro e w22 ⟨rfl, kb⟩
      replace mw1 := mw1.on kb
      replace mw2 := mw2.on kb
      replace me1 := me1.on kb
      replace me2 := me2.on kb
      replace rp := rowIs_on rp kb
      replace r22 := rowIs_on r22 kb
      replace hD := onS hD kb
      clear kb
      refine bkq hK ⟨rp.cell (i := 0) (by omega), rp.cell (i := 1) (by omega), rp.cell (i := 2) (by omega), r22.cell (i := 0) (by omega), r22.cell (i := 1) (by omega), r22.cell (i := 2) (by omega)⟩ (h := fun hHeld => ?_)
      clear hK K
      refine tkq 8 (h := tkq 9 (h := ?_))
      refine wpAnyH_done (by kernel_rfl) ?_ _
      clear hHeld
      go_wp2
      go_ret
      exact ⟨rfl, onS HB.out hD⟩
end Go.Proofs.YtmgeblpnnaamnaaGreat