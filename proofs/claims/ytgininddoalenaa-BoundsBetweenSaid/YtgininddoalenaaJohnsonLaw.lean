/- The law BoundsJohnson. -/
import Derived.Test.YtgininddoalenaaJohnson
namespace Go.Proofs.Ytgininddoalenaa
open Go.RowKit

set_option maxRecDepth 100000 in
set_option maxHeartbeats 8000000 in
theorem refJohnsonOdd_any (n' d' : Nat) (w : World) (hn' : n' ≤ 64) (hd1' : 1 ≤ d') (hd' : d' ≤ n') (hodd : d' % 2 = 1) :
    Calls Try.prog 52 #[.int .i64 (n' : Nat), .int .i64 (d' : Nat)] w (NatPost (johN n' d') w) := by
  obtain ⟨t, ht⟩ : ∃ t, t = d' / 2 := ⟨_, rfl⟩
  obtain ⟨m, hm⟩ : ∃ m, m = n' / (t + 1) := ⟨_, rfl⟩
  obtain ⟨b1, b2, b3, b4, b5, b6, b7, b8, b9, b10⟩ := joh_bounds hn' hd' hd1' ht hm hodd
  have hz : ((d' : Int) % 2 == 0) = false := by simp; omega
  have E1 : ((d' : Int) - 1) / 2 = (t : Int) := by omega
  have E2 := hid (show ((t : Int) + 1) = ((t + 1 : Nat) : Int) by omega)
  have E3 : (n' : Int) / ((t : Int) + 1) = (m : Int) := by rw [hm]; rfl
  have hv0 := vol_pos 2 n' t
  have HD : Hid (0 < m * vol 2 n' (t + 1)) := Nat.mul_pos (by omega) hv0
  have HJ : Hid (johN n' d' = m * 2 ^ n' / (m * vol 2 n' (t + 1) + (chs n' (t + 1) - chs d' t * conN (t + 1) n' d'))) := by
    show _ = _; unfold johN johX; rw [← ht, ← hm]
  have hcon := dl_con (e := t + 1) (n := n') (w := d') hn'
  have hvl := dl_vol (q := 2) (n := n') (k := t + 1) (by omega) (by omega) (by omega)
  have hpw := dl_power (q := 2) (n := n') (by omega) (by omega)
  clear ht hm hodd hv0
  go_enter Try.func52, Try.ntmps52
  go_wp2_with fail
  refine (whole34_any m w (by omega)).mono ?_
  rintro e w1 ⟨A, c, rfl, a1, a2, a3, a4⟩
  have hbx := box1_below w1 (Obj.cells #[] 77)
  go_wp2_with fail
  rw [E2.out]
  refine (refChoose_any n' (t + 1) _ (by omega) b1).mono ?_
  rintro e w4 ⟨A4, c4, rfl, k1, k2, k3, k4⟩
  have hb4 := onS hbx k4
  have a7 := a3.on hb4
  have hB4 := onS a4 hb4
  clear a3 a4 hbx k4 hb4
  go_wp2_with fail
  refine (refChoose_any d' t w4 (by omega) b2).mono ?_
  rintro e w5 ⟨A5, c5, rfl, p1, p2, p3, p4⟩
  have a8 := a7.on p4
  have k5 := k3.on p4
  have hB5 := onS hB4 p4
  clear a7 k3 hB4 p4
  go_wp2_with fail
  rw [E2.out]
  refine (equal_any (t + 1) (by omega) (by omega) n' d' w5 hn' (by omega)).mono ?_
  rintro e w6 ⟨A6, c6, rfl, r1, r2, r3, r4⟩
  have a9 := a8.on r4
  have k6 := k5.on r4
  have p5 := p3.on r4
  have hB6 := onS hB5 r4
  clear a8 k5 p3 hB5 r4
  go_wp2_with fail
  refine (refMul_nat A5 A6 c5 c6 _ _ w6 p5 r3 (by omega) (by omega)).mono ?_
  rintro e w7 ⟨A7, c7, rfl, s1, s2, s3, s4⟩
  have a10 := a9.on s4
  have k7 := k6.on s4
  have hB7 := onS hB6 s4
  clear a9 k6 p5 r3 hB6 s4
  go_wp2_with fail
  refine (refCmp_any A4 A7 c4 c7 _ _ w7 k7 s3 (by omega) (by omega)).mono ?_
  rintro e w8 ⟨rfl, rfl⟩
  by_cases hgt : chs d' t * conN (t + 1) n' d' < chs n' (t + 1)
  · have hc : (0 : Int) < cmpN (chs n' (t + 1)) (chs d' t * conN (t + 1) n' d') := by rw [cmpN_gt hgt]; omega
    obtain ⟨z, hz2⟩ : ∃ z, z = cmpN (chs n' (t + 1)) (chs d' t * conN (t + 1) n' d') := ⟨_, rfl⟩
    rw [← hz2] at hc ⊢
    have HGT := hid hgt
    have hdx : dl (chs n' (t + 1) - chs d' t * conN (t + 1) n' d') ≤ 200 := Nat.le_trans (dl_mono (Nat.sub_le _ _)) b7
    obtain ⟨x, hx⟩ : ∃ x, x = chs n' (t + 1) - chs d' t * conN (t + 1) n' d' := ⟨_, rfl⟩
    have HSX := hid hx
    rw [← hx] at hdx HJ
    have hds : dl (m * vol 2 n' (t + 1) + x) ≤ 201 := by
      refine dl_le ?_
      have h1 : m * vol 2 n' (t + 1) < 4294967296 ^ 200 := Nat.lt_of_lt_of_le (lt_pow_dl _) (Nat.pow_le_pow_right (by omega) (by omega))
      have h2 : x < 4294967296 ^ 200 := Nat.lt_of_lt_of_le (lt_pow_dl _) (Nat.pow_le_pow_right (by omega) hdx)
      rw [show (201 : Nat) = 200 + 1 from rfl, Nat.pow_succ]
      generalize (4294967296 : Nat) ^ 200 = P at *
      omega
    clear hz2 hgt hx
    go_wp2_with fail
    refine (refSub_any A4 A7 c4 c7 _ _ w7 k7 s3 (Nat.le_of_lt HGT.out) (by omega)).mono ?_
    rintro e w8 ⟨A8, c8, rfl, x1, x2, x3, x4⟩
    rw [← HSX.out] at x1 x3 ⊢
    have a11 := a10.on x4
    have hB8 := onS hB7 x4
    clear a10 k7 s3 hB7 x4
    go_wp2_with fail
    refine (refPow34_any 2 n' w8 (by omega) (by omega)).mono ?_
    rintro e w9 ⟨A9, c9, rfl, t1, t2, t3, t4⟩
    have a12 := a11.on t4
    have x5 := x3.on t4
    have hB9 := onS hB8 t4
    clear a11 x3 hB8 t4
    go_wp2_with fail
    refine (refMul_nat A A9 c c9 _ _ w9 a12 t3 (by omega) (by omega)).mono ?_
    rintro e w10 ⟨A10, c10, rfl, u1, u2, u3, u4⟩
    have a13 := a12.on u4
    have x6 := x5.on u4
    have hB10 := onS hB9 u4
    clear a12 t3 x5 hB9 u4
    go_wp2_with fail
    refine (refVolume_any 2 n' t w10 (by omega) (by omega) hn' (by omega)).mono ?_
    rintro e w11 ⟨A11, c11, rfl, f1, f2, f3, f4⟩
    have a14 := a13.on f4
    have x7 := x6.on f4
    have u5 := u3.on f4
    have hB11 := onS hB10 f4
    clear a13 x6 u3 hB10 f4
    go_wp2_with fail
    refine (refMul_nat A A11 c c11 _ _ w11 a14 f3 (by omega) (by omega)).mono ?_
    rintro e w12 ⟨A12, c12, rfl, g1, g2, g3, g4⟩
    have x8 := x7.on g4
    have u6 := u5.on g4
    have hB12 := onS hB11 g4
    clear a14 f3 x7 u5 hB11 g4
    go_wp2_with fail
    refine (refAdd_nat A12 A8 c12 c8 _ _ w12 g3 x8 (by omega) (by omega)).mono ?_
    rintro e w13 ⟨A13, c13, rfl, y1, y2, y3, y4⟩
    have u7 := u6.on y4
    have hB13 := onS hB12 y4
    clear x8 g3 u6 hB12 y4
    go_wp2_with fail
    refine (floor_any A10 A13 c10 c13 _ _ w13 u7 y3 u1 u2 y1 y2 (by omega) (by omega) (Nat.lt_of_lt_of_le HD.out (Nat.le_add_right _ _))).mono ?_
    rintro e w14 ⟨A14, c14, rfl, v1, v2, v3, v4⟩
    have hB14 := onS hB13 v4
    clear u7 y3 hB13 v4
    go_wp2
    go_ret
    rw [HJ.out]
    exact ⟨A14, c14, rfl, v1, v2, v3, hB14⟩
  · have hc : ¬ (0 : Int) < cmpN (chs n' (t + 1)) (chs d' t * conN (t + 1) n' d') := by
      rcases Nat.lt_or_ge (chs n' (t + 1)) (chs d' t * conN (t + 1) n' d') with e | e
      · rw [cmpN_lt e]; omega
      · rw [cmpN_eq (by omega)]; omega
    obtain ⟨z, hz2⟩ : ∃ z, z = cmpN (chs n' (t + 1)) (chs d' t * conN (t + 1) n' d') := ⟨_, rfl⟩
    rw [← hz2] at hc ⊢
    have HJ2 : Hid (johN n' d' = m * 2 ^ n' / (m * vol 2 n' (t + 1) + 0)) := by
      show _ = _
      rw [HJ.out, Nat.sub_eq_zero_of_le (by omega)]
    have HZ0 : ∀ W : World, NatOk W W.heap.size (some ⟨w1.heap.size, 0, none⟩) 0 := fun W i hi => absurd hi (by rw [dl_zero]; omega)
    have hd0 : dl 0 = 0 := dl_zero
    have HD0 := hid hd0
    clear hz2 hgt k7 s3
    go_wp2_with fail
    refine (refPow34_any 2 n' w7 (by omega) (by omega)).mono ?_
    rintro e w9 ⟨A9, c9, rfl, t1, t2, t3, t4⟩
    have a12 := a10.on t4
    have hB9 := onS hB7 t4
    clear a10 hB7 t4
    go_wp2_with fail
    refine (refMul_nat A A9 c c9 _ _ w9 a12 t3 (by omega) (by omega)).mono ?_
    rintro e w10 ⟨A10, c10, rfl, u1, u2, u3, u4⟩
    have a13 := a12.on u4
    have hB10 := onS hB9 u4
    clear a12 t3 hB9 u4
    go_wp2_with fail
    refine (refVolume_any 2 n' t w10 (by omega) (by omega) hn' (by omega)).mono ?_
    rintro e w11 ⟨A11, c11, rfl, f1, f2, f3, f4⟩
    have a14 := a13.on f4
    have u5 := u3.on f4
    have hB11 := onS hB10 f4
    clear a13 u3 hB10 f4
    go_wp2_with fail
    refine (refMul_nat A A11 c c11 _ _ w11 a14 f3 (by omega) (by omega)).mono ?_
    rintro e w12 ⟨A12, c12, rfl, g1, g2, g3, g4⟩
    have u6 := u5.on g4
    have hB12 := onS hB11 g4
    have hz0 := HZ0 w12
    have HADD := hid (refAdd_nat A12 (some ⟨w1.heap.size, 0, none⟩) c12 0 _ 0 w12 g3 hz0 (by omega) (by omega))
    rw [HD0.out] at HADD
    clear a14 f3 u5 hB11 g4 HZ0 hd0
    go_wp2_with fail
    refine HADD.out.mono ?_
    rintro e w13 ⟨A13, c13, rfl, y1, y2, y3, y4⟩
    have u7 := u6.on y4
    have hB13 := onS hB12 y4
    clear g3 u6 hB12 y4 HADD hz0
    go_wp2_with fail
    refine (floor_any A10 A13 c10 c13 _ _ w13 u7 y3 u1 u2 y1 y2 (by omega) (by rw [Nat.add_zero]; omega) (by rw [Nat.add_zero]; exact HD.out)).mono ?_
    rintro e w14 ⟨A14, c14, rfl, v1, v2, v3, v4⟩
    have hB14 := onS hB13 v4
    clear u7 y3 hB13 v4
    go_wp2
    go_ret
    rw [HJ2.out]
    exact ⟨A14, c14, rfl, v1, v2, v3, hB14⟩

set_option maxHeartbeats 4000000 in
theorem refJohnson_any (n d : Nat) (w : World) (hn : n ≤ 64) (hd1 : 1 ≤ d) (hd : d ≤ n) :
    Calls Try.prog 52 #[.int .i64 (n : Nat), .int .i64 (d : Nat)] w (NatPost (johA n d) w) := by
  by_cases hev : d % 2 = 0
  · have hz : ((d : Int) % 2 == 0) = true := by simp; omega
    have E1 := hid (show ((n : Int) - 1) = ((n - 1 : Nat) : Int) by omega)
    have E2 := hid (show ((d : Int) - 1) = ((d - 1 : Nat) : Int) by omega)
    have HA : Hid (johA n d = johN (n - 1) (d - 1)) := by show _ = _; unfold johA; rw [if_pos hev]
    have HC := hid (show (d - 1) % 2 = 1 ∧ 1 ≤ d - 1 by omega)
    clear hev
    go_enter Try.func52, Try.ntmps52
    go_wp2_with fail
    rw [E1.out, E2.out]
    refine (refJohnsonOdd_any (n - 1) (d - 1) w (by omega) HC.out.2 (by omega) HC.out.1).mono ?_
    rintro e w1 ⟨A, c, rfl, a1, a2, a3, a4⟩
    go_wp2
    go_ret
    rw [HA.out]
    exact ⟨A, c, rfl, a1, a2, a3, a4⟩
  · have HA : johA n d = johN n d := by unfold johA; rw [if_neg hev]
    rw [HA]
    exact refJohnsonOdd_any n d w hn hd1 hd (by omega)

set_option maxHeartbeats 2000000 in
theorem johnsonErr_any (n d : Int) (w : World) (h : rangeOk 2 n d = false) :
    Calls Try.prog 50 #[.int .i64 n, .int .i64 d] w fun e w' => e = .returned (.tuple #[.slice none 0 0, .int .i64 6]) ∧ w = w' := by
  have H := hid h
  clear h
  go_enter Try.func50, Try.ntmps50
  go_wp2_with fail
  refine (out_any 2 n d w).mono ?_
  rintro e w1 ⟨rfl, rfl⟩
  rw [H.out]
  go_wp2
  go_ret2
  exact ⟨rfl, rfl⟩
set_option maxHeartbeats 2000000 in
theorem constantErr_any (n d wt : Int) (w : World) (h : rangeOk 2 n d = false) :
    Calls Try.prog 49 #[.int .i64 n, .int .i64 d, .int .i64 wt] w fun e w' => e = .returned (.tuple #[.slice none 0 0, .int .i64 6]) ∧ w = w' := by
  have H := hid h
  clear h
  go_enter Try.func49, Try.ntmps49
  go_wp2_with fail
  refine (out_any 2 n d w).mono ?_
  rintro e w1 ⟨rfl, rfl⟩
  rw [H.out]
  go_wp2
  go_ret2
  exact ⟨rfl, rfl⟩
set_option maxHeartbeats 2000000 in
theorem constantErr2_any (n d wt : Int) (w : World) (h : rangeOk 2 n d = true) (hw : wt < 0 ∨ n < wt) :
    Calls Try.prog 49 #[.int .i64 n, .int .i64 d, .int .i64 wt] w fun e w' => e = .returned (.tuple #[.slice none 0 0, .int .i64 6]) ∧ w = w' := by
  have H := hid h
  clear h
  by_cases h1 : wt < 0
  · clear hw
    go_enter Try.func49, Try.ntmps49
    go_wp2_with fail
    refine (out_any 2 n d w).mono ?_
    rintro e w1 ⟨rfl, rfl⟩
    rw [H.out]
    go_wp2
    go_ret2
    exact ⟨rfl, rfl⟩
  · have h2 : n < wt := by omega
    clear hw
    go_enter Try.func49, Try.ntmps49
    go_wp2_with fail
    refine (out_any 2 n d w).mono ?_
    rintro e w1 ⟨rfl, rfl⟩
    rw [H.out]
    go_wp2
    go_ret2
    exact ⟨rfl, rfl⟩
set_option maxHeartbeats 2000000 in
theorem constantOk_any (n d wt : Nat) (w : World) (h : rangeOk 2 (n : Int) (d : Int) = true) (hn : n ≤ 64) (hd1 : 1 ≤ d) (hd : d ≤ n) (hw : wt ≤ n) :
    Calls Try.prog 49 #[.int .i64 (n : Nat), .int .i64 (d : Nat), .int .i64 (wt : Nat)] w (SubPost (conN ((d + 1) / 2) n wt) w) := by
  have H := hid h
  obtain ⟨e, he⟩ : ∃ e, e = (d + 1) / 2 := ⟨_, rfl⟩
  have E1 := hid (show ((d : Int) + 1) / 2 = (e : Int) by omega)
  rw [← he]
  have he1 : 1 ≤ e := by omega
  have he2 : e ≤ 64 := by omega
  have h1 : ¬ (wt : Int) < 0 := by omega
  have h2 : ¬ (n : Int) < (wt : Int) := by omega
  clear h he
  go_enter Try.func49, Try.ntmps49
  go_wp2_with fail
  refine (out_any 2 n d w).mono ?_
  rintro e' w1 ⟨rfl, rfl⟩
  rw [H.out]
  go_wp2_with fail
  rw [E1.out]
  refine (constant_any e he1 he2 n wt w hn (by omega)).mono ?_
  rintro e' w1 ⟨A, c, rfl, a1, a2, a3, a4⟩
  go_wp2
  go_ret2
  exact ⟨A, c, rfl, a1, a2, a3, a4⟩
set_option maxHeartbeats 2000000 in
theorem refConstant_any (n d wt : Nat) (w : World) (hn : n ≤ 64) (hd1 : 1 ≤ d) (hd : d ≤ n) (hw : wt ≤ n) :
    Calls Try.prog 51 #[.int .i64 (n : Nat), .int .i64 (d : Nat), .int .i64 (wt : Nat)] w (NatPost (conN ((d + 1) / 2) n wt) w) := by
  obtain ⟨e, he⟩ : ∃ e, e = (d + 1) / 2 := ⟨_, rfl⟩
  have E1 := hid (show ((d : Int) + 1) / 2 = (e : Int) by omega)
  rw [← he]
  have he1 : 1 ≤ e := by omega
  have he2 : e ≤ 64 := by omega
  clear he
  go_enter Try.func51, Try.ntmps51
  go_wp2_with fail
  rw [E1.out]
  refine (equal_any e he1 he2 n wt w hn (by omega)).mono ?_
  rintro e' w1 ⟨A, c, rfl, a1, a2, a3, a4⟩
  go_wp2
  go_ret
  exact ⟨A, c, rfl, a1, a2, a3, a4⟩

set_option maxHeartbeats 4000000 in
theorem boundsJohnson_err {n d wt : Int} {w : World} (hv : rangeOk 2 n d = false) :
    Calls Try.prog 12 #[.int .i64 n, .int .i64 d, .int .i64 wt] w fun e w' => e = .returned (.bool true) ∧ Below w.heap.size w w' := by
  have HV := hid hv
  clear hv
  go_enter Try.func12, Try.ntmps12
  go_wp2_with fail
  refine (constantErr_any n d wt w HV.out).mono ?_
  rintro e w1 ⟨rfl, rfl⟩
  go_wp2_with fail
  refine (johnsonErr_any n d w HV.out).mono ?_
  rintro e w1 ⟨rfl, rfl⟩
  go_wp2_with fail
  refine (range_any 2 n d w).mono ?_
  rintro e w1 ⟨rfl, rfl⟩
  rw [HV.out]
  go_wp2
  go_ret
  exact ⟨rfl, Below.refl _ _⟩

set_option maxRecDepth 100000 in
set_option maxHeartbeats 4000000 in
theorem boundsJohnson_bad (n d : Nat) (wt : Int) (w : World) (h : rangeOk 2 (n : Int) (d : Int) = true) (hn : n ≤ 64) (hd1 : 1 ≤ d) (hd : d ≤ n) (hw : wt < 0 ∨ (n : Int) < wt) :
    Calls Try.prog 12 #[.int .i64 (n : Nat), .int .i64 (d : Nat), .int .i64 wt] w fun e w' => e = .returned (.bool true) ∧ Below w.heap.size w w' := by
  have HV := hid h
  have HW := hid hw
  have hdl := dl_johA hn hd hd1
  have hc : wt < 0 ∨ ¬ wt < 0 ∧ (n : Int) < wt := by omega
  clear h hw
  rcases hc with hc | ⟨hc, hc2⟩ <;>
  · go_enter Try.func12, Try.ntmps12
    go_wp2_with fail
    refine (constantErr2_any n d wt w HV.out HW.out).mono ?_
    rintro e w1 ⟨rfl, rfl⟩
    go_wp2_with fail
    refine (johnsonOk_any n d w HV.out hn hd1 hd).mono ?_
    rintro e w2 ⟨B, cb, rfl, b1, b2, b3, b4⟩
    go_wp2_with fail
    refine (range_any 2 n d w2).mono ?_
    rintro e w3 ⟨rfl, rfl⟩
    rw [HV.out]
    go_wp2_with fail
    refine (refJohnson_any n d w2 hn hd1 hd).mono ?_
    rintro e w5 ⟨D, cd, rfl, d1, d2, d3, d4⟩
    have b7 := b3.on d4
    have hB5 := onS b4 d4
    clear b3 b4 d4
    go_wp2_with fail
    refine (is_any B D cb cd _ 0 w5 b7 d3 (by omega)).mono ?_
    rintro e w6 ⟨rfl, hb6⟩
    have hB6 := onS hB5 hb6
    clear b7 d3 hB5 hb6
    go_wp2
    go_ret
    exact ⟨rfl, hB6⟩

set_option maxRecDepth 100000 in
set_option maxHeartbeats 4000000 in
theorem boundsJohnson_ok (n d wt : Nat) (w : World) (h : rangeOk 2 (n : Int) (d : Int) = true) (hn : n ≤ 64) (hd1 : 1 ≤ d) (hd : d ≤ n) (hw : wt ≤ n) :
    Calls Try.prog 12 #[.int .i64 (n : Nat), .int .i64 (d : Nat), .int .i64 (wt : Nat)] w fun e w' => e = .returned (.bool true) ∧ Below w.heap.size w w' := by
  have HV := hid h
  have hdl := dl_johA hn hd hd1
  have hdc := dl_con (e := (d + 1) / 2) (n := n) (w := wt) hn
  have h1 : ¬ (wt : Int) < 0 := by omega
  have h2 : ¬ (n : Int) < (wt : Int) := by omega
  clear h
  go_enter Try.func12, Try.ntmps12
  go_wp2_with fail
  refine (constantOk_any n d wt w HV.out hn hd1 hd hw).mono ?_
  rintro e w1 ⟨A, c, rfl, a1, a2, a3, a4⟩
  go_wp2_with fail
  refine (johnsonOk_any n d w1 HV.out hn hd1 hd).mono ?_
  rintro e w2 ⟨B, cb, rfl, b1, b2, b3, b4⟩
  have a5 := a3.on b4
  have hB2 := onS a4 b4
  clear a3 a4 b4
  go_wp2_with fail
  refine (range_any 2 n d w2).mono ?_
  rintro e w3 ⟨rfl, rfl⟩
  rw [HV.out]
  go_wp2_with fail
  refine (refConstant_any n d wt w2 hn hd1 hd hw).mono ?_
  rintro e w3 ⟨C, cc, rfl, c1, c2, c3, c4⟩
  have a6 := a5.on c4
  have b5 := b3.on c4
  have hB3 := onS hB2 c4
  clear a5 b3 hB2 c4
  go_wp2_with fail
  refine (is_any A C c cc _ 0 w3 a6 c3 (by omega)).mono ?_
  rintro e w4 ⟨rfl, hb4⟩
  have b6 := b5.on hb4
  have hB4 := onS hB3 hb4
  clear a6 c3 b5 hB3 hb4
  go_wp2_with fail
  refine (refJohnson_any n d w4 hn hd1 hd).mono ?_
  rintro e w5 ⟨D, cd, rfl, d1, d2, d3, d4⟩
  have b7 := b6.on d4
  have hB5 := onS hB4 d4
  clear b6 hB4 d4
  go_wp2_with fail
  refine (is_any B D cb cd _ 0 w5 b7 d3 (by omega)).mono ?_
  rintro e w6 ⟨rfl, hb6⟩
  have hB6 := onS hB5 hb6
  clear b7 d3 hB5 hb6
  go_wp2
  go_ret
  exact ⟨rfl, hB6⟩

theorem boundsJohnson_law {n d wt : Int} {w : World} (_h1 : (Lit.int .i64 n).wf = true) (_h2 : (Lit.int .i64 d).wf = true) (_h3 : (Lit.int .i64 wt).wf = true) :
    Calls Try.prog 12 #[.int .i64 n, .int .i64 d, .int .i64 wt] w fun e w' => e = .returned (.bool true) ∧ Below w.heap.size w w' := by
  cases hv : rangeOk 2 n d
  · exact boundsJohnson_err hv
  · obtain ⟨q, n, d, e, rfl, rfl, h1, h2, h3, h4, h5, h6⟩ := range_parts hv
    by_cases hw : wt < 0 ∨ (n : Int) < wt
    · exact boundsJohnson_bad n d wt w hv h4 h5 h6 hw
    · obtain ⟨wt, rfl⟩ := Int.eq_ofNat_of_zero_le (show 0 ≤ wt by omega)
      exact boundsJohnson_ok n d wt w hv h4 h5 h6 (by omega)
end Go.Proofs.Ytgininddoalenaa
