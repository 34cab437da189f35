/- bounds.volume and codewrightref34.Volume, of a radius from -1 on. -/
import Derived.Test.YtgininddoalenaaVolume
namespace Go.Proofs.Ytgininddoalenaa
open Go.RowKit

set_option maxHeartbeats 4000000 in
theorem volumeK_any (q n K : Nat) (w : World) (hq : 1 ≤ q) (hq2 : q ≤ 256) (hn : n ≤ 64) (hK : K ≤ n + 1) :
    Calls Try.prog 67 #[.int .i64 (q : Nat), .int .i64 (n : Nat), .int .i64 ((K : Nat) - 1 : Int)] w (NatPost (vol q n K) w) := by
  have eq1 : ((q : Int) - 1) = ((q - 1 : Nat) : Int) := by omega
  have HQ := hid eq1
  clear eq1
  go_enter Try.func67, Try.ntmps67
  go_wp2
  go_loopg [8, 7] K (fun gg iv ov wx => ∃ i : Nat, ∃ A c, iv = .int .i64 (i : Nat) ∧ ov = .slice A (dl (vol q n i)) c ∧ i ≤ K ∧ K ≤ i + gg ∧ dl (vol q n i) ≤ c ∧ c ≤ maxLen ∧ NatOk wx wx.heap.size A (vol q n i) ∧ Below w.heap.size w wx)
  case atStart => exact ⟨0, none, 0, rfl, by simp [vol, dl_zero], by omega, by omega, by simp [vol, dl_zero], by unfold maxLen; omega, fun i hi => absurd hi (by simp [vol, dl_zero]), Below.refl _ _⟩
  case round =>
    obtain ⟨i, A, c, rfl, rfl, hi, hig, hc, hcm, hA, hB⟩ := hrel
    by_cases hlt : i < K
    · have hd := dl_vol (q := q) (n := n) (k := i + 1) (by omega) (by omega) (by omega)
      have hdc := dl_chs n i (by omega)
      have hdp := dl_power (q := q - 1) (n := i) (by omega) (by omega)
      have hdm := dl_mul_le hdc hdp
      go_wp2_with fail
      refine (choose_any n i wr (by omega) (by omega)).mono ?_
      rintro e w1 ⟨A1, c1, rfl, f1, f2, f3, f4⟩
      have hA1 := hA.on f4
      have hB1 := onS hB f4
      clear hA hB f4
      go_wp2_with fail
      rw [HQ.out]
      refine (power_any (q - 1) i w1 (by omega) (by omega)).mono ?_
      rintro e w2 ⟨A2, c2, rfl, g1, g2, g3, g4⟩
      have hA2 := hA1.on g4
      have f5 := f3.on g4
      have hB2 := onS hB1 g4
      clear hA1 hB1 g4 f3
      go_wp2_with fail
      refine (mul_two 39 f5 g3 f1 g1 f2 g2 (by omega) (by omega) (by omega)).mono ?_
      rintro e w3 ⟨A3, c3, rfl, k1, k2, k3, k4⟩
      have hb3 := onS (below_one w2 _) k4
      have hA3 := hA2.on hb3
      have hB3 := onS hB2 hb3
      clear hA2 hB2 hb3 k4 f5 g3
      go_wp2_with fail
      refine (add_two 39 hA3 k3 hc k1 hcm k2 (by simp only [vol] at hd; omega)).mono ?_
      rintro e w4 ⟨A4, c4, rfl, m1, m2, m3, m4⟩
      have hB4 := onS hB3 (onS (below_one w3 _) m4)
      clear hA3 hB3 k3 m4
      go_wp2
      go_roundg (gk - 1)
      case measure => omega
      case rel => exact ⟨i + 1, A4, c4, by go_num, rfl, by omega, by omega, m1, m2, m3, hB4⟩
    · obtain rfl : i = K := by omega
      go_wp2
      go_ret
      exact ⟨A, c, rfl, hc, hcm, hA, hB⟩

set_option maxHeartbeats 4000000 in
theorem refVolumeK_any (q n K : Nat) (w : World) (hq : 1 ≤ q) (hq2 : q ≤ 256) (hn : n ≤ 64) (hK : K ≤ n + 1) :
    Calls Try.prog 28 #[.int .i64 (q : Nat), .int .i64 (n : Nat), .int .i64 ((K : Nat) - 1 : Int)] w (NatPost (vol q n K) w) := by
  have eq1 : ((q : Int) - 1) = ((q - 1 : Nat) : Int) := by omega
  have HQ := hid eq1
  clear eq1
  go_enter Try.func28, Try.ntmps28
  go_wp2
  go_loopg [8, 7] K (fun gg iv ov wx => ∃ i : Nat, ∃ A c, iv = .int .i64 (i : Nat) ∧ ov = .slice A (dl (vol q n i)) c ∧ i ≤ K ∧ K ≤ i + gg ∧ dl (vol q n i) ≤ c ∧ c ≤ maxLen ∧ NatOk wx wx.heap.size A (vol q n i) ∧ Below w.heap.size w wx)
  case atStart => exact ⟨0, some ⟨w.heap.size, 0, none⟩, 0, rfl, by simp [vol, dl_zero], by omega, by omega, by simp [vol, dl_zero], by unfold maxLen; omega, fun i hi => absurd hi (by simp [vol, dl_zero]), below_one _ _⟩
  case round =>
    obtain ⟨i, A, c, rfl, rfl, hi, hig, hc, hcm, hA, hB⟩ := hrel
    by_cases hlt : i < K
    · have hd := dl_vol (q := q) (n := n) (k := i + 1) (by omega) (by omega) (by omega)
      have hd0 := dl_vol (q := q) (n := n) (k := i) (by omega) (by omega) (by omega)
      have hdc := dl_chs n i (by omega)
      have hdp := dl_power (q := q - 1) (n := i) (by omega) (by omega)
      have hdm := dl_mul_le hdc hdp
      go_wp2_with fail
      refine (refChoose_any n i wr (by omega) (by omega)).mono ?_
      rintro e w1 ⟨A1, c1, rfl, f1, f2, f3, f4⟩
      have hA1 := hA.on f4
      have hB1 := onS hB f4
      clear hA hB f4
      go_wp2_with fail
      rw [HQ.out]
      refine (refPow34_any (q - 1) i w1 (by omega) (by omega)).mono ?_
      rintro e w2 ⟨A2, c2, rfl, g1, g2, g3, g4⟩
      have hA2 := hA1.on g4
      have f5 := f3.on g4
      have hB2 := onS hB1 g4
      clear hA1 hB1 g4 f3
      go_wp2_with fail
      refine (refMul_nat A1 A2 c1 c2 _ _ w2 f5 g3 (by omega) (by omega)).mono ?_
      rintro e w3 ⟨A3, c3, rfl, k1, k2, k3, k4⟩
      have hA3 := hA2.on k4
      have hB3 := onS hB2 k4
      clear hA2 hB2 k4 f5 g3
      go_wp2_with fail
      refine (refAdd_nat A A3 c c3 _ _ w3 hA3 k3 (by omega) (by omega)).mono ?_
      rintro e w4 ⟨A4, c4, rfl, m1, m2, m3, m4⟩
      have hB4 := onS hB3 m4
      clear hA3 hB3 k3 m4
      go_wp2
      go_roundg (gk - 1)
      case measure => omega
      case rel => exact ⟨i + 1, A4, c4, by go_num, rfl, by omega, by omega, m1, m2, m3, hB4⟩
    · obtain rfl : i = K := by omega
      go_wp2
      go_ret
      exact ⟨A, c, rfl, hc, hcm, hA, hB⟩
end Go.Proofs.Ytgininddoalenaa
