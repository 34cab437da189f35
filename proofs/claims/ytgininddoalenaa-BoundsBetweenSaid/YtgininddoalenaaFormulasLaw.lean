/- The law BoundsFormulas. -/
import Derived.Test.YtgininddoalenaaFormulas
namespace Go.Proofs.Ytgininddoalenaa
open Go.RowKit

theorem dl_sing {q n d : Nat} (hq : q ≤ 256) (hn : n ≤ 64) (hd : 1 ≤ d) (hdn : d ≤ n) : dl (q ^ (n - d + 1)) ≤ 65 := dl_power (by omega) (by omega)
theorem dl_ham {q n d : Nat} (hq : q ≤ 256) (hn : n ≤ 64) : dl (hamN q n d) ≤ 65 :=
  Nat.le_trans (dl_mono (Nat.div_le_self _ _)) (dl_power (by omega) (by omega))
theorem dl_plot {q n d : Nat} (hq : 2 ≤ q) (hq2 : q ≤ 256) (hn : n ≤ 64) (hd : d ≤ n) : dl (plotN q n d) ≤ 1 := by
  obtain ⟨a, b, ha, hb, e1, e2, h1, h2⟩ := plot_letters q n d hq hq2 hn (by omega)
  unfold plotN
  rw [← ha, ← hb]
  refine dl_le ?_
  have := Nat.div_le_self a (a - b)
  omega

set_option maxHeartbeats 4000000 in
theorem boundsFormulas_err {q n d : Int} {w : World} (hv : rangeOk q n d = false) :
    Calls Try.prog 10 #[.int .i64 q, .int .i64 n, .int .i64 d] w fun e w' => e = .returned (.bool true) ∧ Below w.heap.size w w' := by
  have HV := hid hv
  clear hv
  go_enter Try.func10, Try.ntmps10
  go_wp2_with fail
  refine (singErr_any q n d w HV.out).mono ?_
  rintro e w1 ⟨rfl, rfl⟩
  go_wp2_with fail
  refine (hamErr_any q n d w HV.out).mono ?_
  rintro e w1 ⟨rfl, rfl⟩
  go_wp2_with fail
  refine (plotErr_any q n d w HV.out).mono ?_
  rintro e w1 ⟨rfl, rfl⟩
  go_wp2_with fail
  refine (range_any q n d w).mono ?_
  rintro e w1 ⟨rfl, rfl⟩
  rw [HV.out]
  go_wp2
  go_ret
  exact ⟨rfl, Below.refl _ _⟩

set_option maxRecDepth 100000 in
set_option maxHeartbeats 4000000 in
theorem boundsFormulas_ok (q n d : Nat) (w : World) (h : rangeOk (q : Int) (n : Int) (d : Int) = true) (hq : 2 ≤ q) (hq2 : q ≤ 256) (hn : n ≤ 64) (hd1 : 1 ≤ d) (hd : d ≤ n) :
    Calls Try.prog 10 #[.int .i64 (q : Nat), .int .i64 (n : Nat), .int .i64 (d : Nat)] w fun e w' => e = .returned (.bool true) ∧ Below w.heap.size w w' := by
  have HV := hid h
  have g1 := dl_sing (q := q) hq2 hn hd1 hd
  have g2 := dl_ham (q := q) (n := n) (d := d) hq2 hn
  have g3 := dl_plot hq hq2 hn hd
  have HP : Hid (q * d ≤ (q - 1) * n ∨ (q - 1) * n < q * d) := by show _ ∨ _; omega
  clear h
  go_enter Try.func10, Try.ntmps10
  go_wp2_with fail
  refine (singOk_any q n d w HV.out hq2 hn hd1 hd).mono ?_
  rintro e w1 ⟨A, c, rfl, a1, a2, a3, a4⟩
  go_wp2_with fail
  refine (hamOk_any q n d w1 HV.out (by omega) hq2 hn hd1 hd).mono ?_
  rintro e w2 ⟨B, cb, rfl, b1, b2, b3, b4⟩
  have a5 := a3.on b4
  have hB2 := onS a4 b4
  clear a3 a4 b4
  rcases HP.out with hno | hyes
  · have HN := hid hno
    clear hno
    go_wp2_with fail
    refine (plotNo_any q n d w2 HV.out hq hq2 hn hd HN.out).mono ?_
    rintro e w3 ⟨rfl, rfl⟩
    go_wp2_with fail
    refine (range_any q n d w2).mono ?_
    rintro e w3 ⟨rfl, rfl⟩
    rw [HV.out]
    go_wp2_with fail
    refine (refPlotNo_any q n d w2 hq hq2 hn hd HN.out).mono ?_
    rintro e w3 ⟨rfl, rfl⟩
    go_wp2_with fail
    refine (refSing_any q n d w2 hq2 hn hd1 hd).mono ?_
    rintro e w3 ⟨C, cc, rfl, c1, c2, c3, c4⟩
    have a6 := a5.on c4
    have b5 := b3.on c4
    have hB3 := onS hB2 c4
    clear a5 b3 hB2 c4
    go_wp2_with fail
    refine (is_any A C c cc _ 0 w3 a6 c3 (by omega)).mono ?_
    rintro e w4 ⟨rfl, hb4⟩
    have b6 := b5.on hb4
    have hB4 := onS hB3 hb4
    clear a6 c3 b5 hB3 hb4
    go_wp2_with fail
    refine (refHam_any q n d w4 (by omega) hq2 hn hd1 hd).mono ?_
    rintro e w5 ⟨D, cd, rfl, d1, d2, d3, d4⟩
    have b7 := b6.on d4
    have hB5 := onS hB4 d4
    clear b6 hB4 d4
    go_wp2_with fail
    refine (is_any B D cb cd _ 0 w5 b7 d3 (by omega)).mono ?_
    rintro e w6 ⟨rfl, hb6⟩
    have hB6 := onS hB5 hb6
    clear b7 d3 hB5 hb6
    go_wp2_with fail
    refine (isNot_any 11 w6).mono ?_
    rintro e w7 ⟨rfl, rfl⟩
    go_wp2
    go_ret
    exact ⟨rfl, hB6⟩
  · have HN := hid hyes
    clear hyes
    go_wp2_with fail
    refine (plotOk_any q n d w2 HV.out hq hq2 hn hd HN.out).mono ?_
    rintro e w3 ⟨P, cp, rfl, p1, p2, p3, p4⟩
    have a6 := a5.on p4
    have b5 := b3.on p4
    have hB3 := onS hB2 p4
    clear a5 b3 hB2 p4
    go_wp2_with fail
    refine (range_any q n d w3).mono ?_
    rintro e w4 ⟨rfl, rfl⟩
    rw [HV.out]
    go_wp2_with fail
    refine (refPlotOk_any q n d w3 hq hq2 hn hd HN.out).mono ?_
    rintro e w4 ⟨Q, cq, rfl, q1, q2, q3, q4⟩
    have a7 := a6.on q4
    have b6 := b5.on q4
    have p5 := p3.on q4
    have hB4 := onS hB3 q4
    clear a6 b5 p3 hB3 q4
    go_wp2_with fail
    refine (refSing_any q n d w4 hq2 hn hd1 hd).mono ?_
    rintro e w5 ⟨C, cc, rfl, c1, c2, c3, c4⟩
    have a8 := a7.on c4
    have b7 := b6.on c4
    have p6 := p5.on c4
    have q5 := q3.on c4
    have hB5 := onS hB4 c4
    clear a7 b6 p5 q3 hB4 c4
    go_wp2_with fail
    refine (is_any A C c cc _ 0 w5 a8 c3 (by omega)).mono ?_
    rintro e w6 ⟨rfl, hb6⟩
    have b8 := b7.on hb6
    have p7 := p6.on hb6
    have q6 := q5.on hb6
    have hB6 := onS hB5 hb6
    clear a8 c3 b7 p6 q5 hB5 hb6
    go_wp2_with fail
    refine (refHam_any q n d w6 (by omega) hq2 hn hd1 hd).mono ?_
    rintro e w7 ⟨D, cd, rfl, d1, d2, d3, d4⟩
    have b9 := b8.on d4
    have p8 := p7.on d4
    have q7 := q6.on d4
    have hB7 := onS hB6 d4
    clear b8 p7 q6 hB6 d4
    go_wp2_with fail
    refine (is_any B D cb cd _ 0 w7 b9 d3 (by omega)).mono ?_
    rintro e w8 ⟨rfl, hb8⟩
    have p9 := p8.on hb8
    have q8 := q7.on hb8
    have hB8 := onS hB7 hb8
    clear b9 d3 p8 q7 hB7 hb8
    go_wp2_with fail
    refine (is_any P Q cp cq _ 11 w8 p9 q8 (by omega)).mono ?_
    rintro e w9 ⟨rfl, hb9⟩
    have hB9 := onS hB8 hb9
    clear p9 q8 hB8 hb9
    go_wp2
    go_ret
    exact ⟨rfl, hB9⟩

theorem range_parts {q n d : Int} (hv : rangeOk q n d = true) : ∃ q' n' d' : Nat, q = (q' : Int) ∧ n = (n' : Int) ∧ d = (d' : Int) ∧ 2 ≤ q' ∧ q' ≤ 256 ∧ 1 ≤ n' ∧ n' ≤ 64 ∧ 1 ≤ d' ∧ d' ≤ n' := by
  have hr : 2 ≤ q ∧ q ≤ 256 ∧ 1 ≤ n ∧ n ≤ 64 ∧ 1 ≤ d ∧ d ≤ n := by simpa [rangeOk] using hv
  obtain ⟨q, rfl⟩ := Int.eq_ofNat_of_zero_le (show 0 ≤ q by omega)
  obtain ⟨n, rfl⟩ := Int.eq_ofNat_of_zero_le (show 0 ≤ n by omega)
  obtain ⟨d, rfl⟩ := Int.eq_ofNat_of_zero_le (show 0 ≤ d by omega)
  exact ⟨q, n, d, rfl, rfl, rfl, by omega, by omega, by omega, by omega, by omega, by omega⟩

theorem boundsFormulas_law {q n d : Int} {w : World} (_h1 : (Lit.int .i64 q).wf = true) (_h2 : (Lit.int .i64 n).wf = true) (_h3 : (Lit.int .i64 d).wf = true) :
    Calls Try.prog 10 #[.int .i64 q, .int .i64 n, .int .i64 d] w fun e w' => e = .returned (.bool true) ∧ Below w.heap.size w w' := by
  cases hv : rangeOk q n d
  · exact boundsFormulas_err hv
  · obtain ⟨q, n, d, rfl, rfl, rfl, h1, h2, h3, h4, h5, h6⟩ := range_parts hv
    exact boundsFormulas_ok q n d w hv h1 h2 h4 h5 h6
end Go.Proofs.Ytgininddoalenaa
