/- bounds.Griesmer and codewrightref34.Griesmer add up the rounded quotients; BoundsGriesmer returns true. -/
import Derived.Test.YtgininddoalenaaOpen
namespace Go.Proofs.Ytgininddoalenaa
open Go.RowKit

theorem ret2_int {a b c d : Int} (h : a = b) (h' : c = d) : Ending.returned (.tuple #[.int .i64 a, .int .i64 c]) = .returned (.tuple #[.int .i64 b, .int .i64 d]) := by rw [h, h']

/-- d divided k times by q, rounded up each time. -/
def grD (q d : Int) : Nat → Int
  | 0 => d
  | k + 1 => (grD q d k + q - 1) / q
/-- The sum of the first k. -/
def grN (q d : Int) : Nat → Int
  | 0 => 0
  | k + 1 => grN q d k + grD q d k

theorem grD_bd {q d : Int} (hq : 2 ≤ q) (hd : 1 ≤ d) (hd' : d ≤ 1048576) (k : Nat) : 1 ≤ grD q d k ∧ grD q d k ≤ 1048576 := by
  induction k with
  | zero => exact ⟨hd, hd'⟩
  | succ k ih =>
    obtain ⟨h1, h2⟩ := ih
    simp only [grD]
    have hq0 : 0 < q := by omega
    refine ⟨?_, ?_⟩
    · exact (Int.le_ediv_iff_mul_le hq0).2 (by omega)
    · have : (grD q d k + q - 1) / q < grD q d k + 1 := Int.ediv_lt_of_lt_mul hq0 (by
        have : (grD q d k + 1) * 2 ≤ (grD q d k + 1) * q := Int.mul_le_mul_of_nonneg_left hq (by omega)
        have e : (grD q d k + 1) * q = grD q d k * q + q := by rw [Int.add_mul, Int.one_mul]
        have : grD q d k * 2 ≤ grD q d k * q := Int.mul_le_mul_of_nonneg_left hq (by omega)
        omega)
      omega
theorem grN_bd {q d : Int} (hq : 2 ≤ q) (hd : 1 ≤ d) (hd' : d ≤ 1048576) (k : Nat) : 0 ≤ grN q d k ∧ grN q d k ≤ k * 1048576 := by
  induction k with
  | zero => simp [grN]
  | succ k ih =>
    have := grD_bd hq hd hd' k
    simp only [grN]
    omega

def grOut (q k d : Int) : Prop := q < 2 ∨ 256 < q ∨ k < 0 ∨ 64 < k ∨ d < 1 ∨ 1048576 < d

set_option maxHeartbeats 1000000 in
theorem griesmer_out (q k d : Int) (w : World) (h : grOut q k d) :
    Calls Try.prog 18 #[.int .i64 q, .int .i64 k, .int .i64 d] w fun e w' => e = .returned (.tuple #[.int .i64 0, .int .i64 6]) ∧ w = w' := by
  have H := hid h
  clear h
  by_cases c0 : q < 2
  · go_enter Try.func18, Try.ntmps18
    go_wp2
    all_goals (go_ret2; exact ⟨rfl, rfl⟩)
  by_cases c1 : 256 < q
  · go_enter Try.func18, Try.ntmps18
    go_wp2
    all_goals (go_ret2; exact ⟨rfl, rfl⟩)
  by_cases c2 : k < 0
  · go_enter Try.func18, Try.ntmps18
    go_wp2
    all_goals (go_ret2; exact ⟨rfl, rfl⟩)
  by_cases c3 : 64 < k
  · go_enter Try.func18, Try.ntmps18
    go_wp2
    all_goals (go_ret2; exact ⟨rfl, rfl⟩)
  by_cases c4 : d < 1
  · go_enter Try.func18, Try.ntmps18
    go_wp2
    all_goals (go_ret2; exact ⟨rfl, rfl⟩)
  by_cases c5 : 1048576 < d
  · go_enter Try.func18, Try.ntmps18
    go_wp2
    all_goals (go_ret2; exact ⟨rfl, rfl⟩)
  exact absurd H.out (by unfold grOut; omega)

set_option maxHeartbeats 1000000 in
theorem griesmer_ok (q k d : Int) (w : World) (h : ¬ grOut q k d) :
    Calls Try.prog 18 #[.int .i64 q, .int .i64 k, .int .i64 d] w fun e w' => e = .returned (.tuple #[.int .i64 (grN q d k.toNat), .int .i64 0]) ∧ w = w' := by
  unfold grOut at h
  have a1 : ¬ q < 2 := by omega
  have a2 : ¬ 256 < q := by omega
  have a3 : ¬ k < 0 := by omega
  have a4 : ¬ 64 < k := by omega
  have a5 : ¬ d < 1 := by omega
  have a6 : ¬ 1048576 < d := by omega
  have hk0 : Hid ((k.toNat : Int) = k) := by show _ = _; omega
  clear h
  go_enter Try.func18, Try.ntmps18
  go_wp2
  go_loop [2, 8, 32] (fun dd nn i => ∃ j : Nat, j ≤ k.toNat ∧ i = .int .i64 j ∧ dd = .int .i64 (grD q d j) ∧ nn = .int .i64 (grN q d j)) (fun _ _ i => k.toNat - (intOf i).toNat)
  case atStart => exact ⟨0, by omega, rfl, rfl, rfl⟩
  case round =>
    obtain ⟨j, hj, rfl, rfl, rfl⟩ := hrel
    obtain ⟨d1, d2⟩ := grD_bd (q := q) (d := d) (by omega) (by omega) (by omega) j
    obtain ⟨n1, n2⟩ := grN_bd (q := q) (d := d) (by omega) (by omega) (by omega) j
    obtain ⟨m1, m2⟩ := grD_bd (q := q) (d := d) (by omega) (by omega) (by omega) (j + 1)
    have hj64 : j ≤ 64 := by omega
    have hD : Hid (grD q d (j + 1) = (grD q d j + q - 1) / q) := rfl
    by_cases hlt : j < k.toNat
    · have hlt' : (j : Int) < k := by omega
      go_wp2
      go_round
      case rel => exact ⟨j + 1, by omega, by go_num, by rw [hD.out], rfl⟩
      case measure => simp [intOf]; omega
    · obtain rfl : j = k.toNat := by omega
      have hge : ¬ ((k.toNat : Int) < k) := by omega
      go_wp2
      go_ret2
      exact ⟨rfl, rfl⟩

set_option maxHeartbeats 1000000 in
theorem refGriesmer_ok (q k d : Int) (w : World) (h : ¬ grOut q k d) :
    Calls Try.prog 19 #[.int .i64 q, .int .i64 k, .int .i64 d] w fun e w' => e = .returned (.int .i64 (grN q d k.toNat)) ∧ w = w' := by
  unfold grOut at h
  have a1 : ¬ q < 2 := by omega
  have a2 : ¬ 256 < q := by omega
  have a3 : ¬ k < 0 := by omega
  have a4 : ¬ 64 < k := by omega
  have a5 : ¬ d < 1 := by omega
  have a6 : ¬ 1048576 < d := by omega
  clear h
  go_enter Try.func19, Try.ntmps19
  go_wp2
  go_loop [2, 7, 8] (fun dd nn i => ∃ j : Nat, j ≤ k.toNat ∧ i = .int .i64 j ∧ dd = .int .i64 (grD q d j) ∧ nn = .int .i64 (grN q d j)) (fun _ _ i => k.toNat - (intOf i).toNat)
  case atStart => exact ⟨0, by omega, rfl, rfl, rfl⟩
  case round =>
    obtain ⟨j, hj, rfl, rfl, rfl⟩ := hrel
    obtain ⟨d1, d2⟩ := grD_bd (q := q) (d := d) (by omega) (by omega) (by omega) j
    obtain ⟨n1, n2⟩ := grN_bd (q := q) (d := d) (by omega) (by omega) (by omega) j
    obtain ⟨m1, m2⟩ := grD_bd (q := q) (d := d) (by omega) (by omega) (by omega) (j + 1)
    have hj64 : j ≤ 64 := by omega
    have hD : Hid (grD q d (j + 1) = (grD q d j + q - 1) / q) := rfl
    by_cases hlt : j < k.toNat
    · have hlt' : (j : Int) < k := by omega
      go_wp2
      go_round
      case rel => exact ⟨j + 1, by omega, by go_num, by rw [hD.out], rfl⟩
      case measure => simp [intOf]; omega
    · obtain rfl : j = k.toNat := by omega
      have hge : ¬ ((k.toNat : Int) < k) := by omega
      go_wp2
      go_ret
      exact ⟨rfl, rfl⟩

set_option maxHeartbeats 2000000 in
theorem boundsGriesmer_any (q k d : Int) (w : World) :
    Calls Try.prog 3 #[.int .i64 q, .int .i64 k, .int .i64 d] w fun e w' => e = .returned (.bool true) ∧ w = w' := by
  by_cases c0 : q < 2
  · have H := hid (show grOut q k d by unfold grOut; omega)
    go_enter Try.func3, Try.ntmps3
    go_wp2_with fail
    refine (griesmer_out q k d w H.out).mono ?_
    rintro e w1 ⟨rfl, rfl⟩
    go_wp2
    all_goals (go_ret; exact ⟨rfl, rfl⟩)
  by_cases c1 : 256 < q
  · have H := hid (show grOut q k d by unfold grOut; omega)
    go_enter Try.func3, Try.ntmps3
    go_wp2_with fail
    refine (griesmer_out q k d w H.out).mono ?_
    rintro e w1 ⟨rfl, rfl⟩
    go_wp2
    all_goals (go_ret; exact ⟨rfl, rfl⟩)
  by_cases c2 : k < 0
  · have H := hid (show grOut q k d by unfold grOut; omega)
    go_enter Try.func3, Try.ntmps3
    go_wp2_with fail
    refine (griesmer_out q k d w H.out).mono ?_
    rintro e w1 ⟨rfl, rfl⟩
    go_wp2
    all_goals (go_ret; exact ⟨rfl, rfl⟩)
  by_cases c3 : 64 < k
  · have H := hid (show grOut q k d by unfold grOut; omega)
    go_enter Try.func3, Try.ntmps3
    go_wp2_with fail
    refine (griesmer_out q k d w H.out).mono ?_
    rintro e w1 ⟨rfl, rfl⟩
    go_wp2
    all_goals (go_ret; exact ⟨rfl, rfl⟩)
  by_cases c4 : d < 1
  · have H := hid (show grOut q k d by unfold grOut; omega)
    go_enter Try.func3, Try.ntmps3
    go_wp2_with fail
    refine (griesmer_out q k d w H.out).mono ?_
    rintro e w1 ⟨rfl, rfl⟩
    go_wp2
    all_goals (go_ret; exact ⟨rfl, rfl⟩)
  by_cases c5 : 1048576 < d
  · have H := hid (show grOut q k d by unfold grOut; omega)
    go_enter Try.func3, Try.ntmps3
    go_wp2_with fail
    refine (griesmer_out q k d w H.out).mono ?_
    rintro e w1 ⟨rfl, rfl⟩
    go_wp2
    all_goals (go_ret; exact ⟨rfl, rfl⟩)
  have H := hid (show ¬ grOut q k d by unfold grOut; omega)
  go_enter Try.func3, Try.ntmps3
  go_wp2_with fail
  refine (griesmer_ok q k d w H.out).mono ?_
  rintro e w1 ⟨rfl, rfl⟩
  go_wp2_with fail
  refine (refGriesmer_ok q k d w H.out).mono ?_
  rintro e w1 ⟨rfl, rfl⟩
  go_wp2
  go_ret
  exact ⟨rfl, rfl⟩

theorem boundsGriesmer_law {q k d : Int} {w : World} (_h1 : (Lit.int .i64 q).wf = true) (_h2 : (Lit.int .i64 k).wf = true) (_h3 : (Lit.int .i64 d).wf = true) :
    Calls Try.prog 3 #[.int .i64 q, .int .i64 k, .int .i64 d] w fun e w' => e = .returned (.bool true) ∧ Below w.heap.size w w' :=
  (boundsGriesmer_any q k d w).mono fun _ _ ⟨he, hw⟩ => ⟨he, hw ▸ Below.refl _ _⟩
end Go.Proofs.Ytgininddoalenaa
