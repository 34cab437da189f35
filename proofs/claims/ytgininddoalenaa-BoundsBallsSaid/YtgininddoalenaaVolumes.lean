/- BoundsVolumes returns true. -/
import Derived.Test.YtgininddoalenaaVolume
import Derived.Test.YtgininddoalenaaOpen
namespace Go.Proofs.Ytgininddoalenaa
open Go.RowKit

def volOk (q n r : Int) : Bool := decide (2 ≤ q ∧ q ≤ 256 ∧ 0 ≤ n ∧ n ≤ 64 ∧ 0 ≤ r ∧ r ≤ n)

set_option maxHeartbeats 2000000 in
theorem volumeRange_any (q n r : Int) (w : World) :
    Calls Try.prog 26 #[.int .i64 q, .int .i64 n, .int .i64 r] w fun e w' => e = .returned (.bool (volOk q n r)) ∧ w = w' := by
  have HT : Hid (∀ b : Bool, (b = true ↔ (2 ≤ q ∧ q ≤ 256 ∧ 0 ≤ n ∧ n ≤ 64 ∧ 0 ≤ r ∧ r ≤ n)) → Ending.returned (Value.bool b) = .returned (.bool (volOk q n r))) := fun b hb => by
    unfold volOk
    rw [Bool.eq_iff_iff.2 (hb.trans (decide_eq_true_iff).symm)]
  go_enter Try.func26, Try.ntmps26
  go_wp2
  all_goals
    go_ret
    refine ⟨HT.out _ ?_, rfl⟩
    simp
    try omega

set_option maxHeartbeats 2000000 in
theorem volumeErr_any (q n r : Int) (w : World) (h : volOk q n r = false) :
    Calls Try.prog 25 #[.int .i64 q, .int .i64 n, .int .i64 r] w fun e w' => e = .returned (.tuple #[.slice none 0 0, .int .i64 6]) ∧ w = w' := by
  have H : Hid (¬ (2 ≤ q ∧ q ≤ 256 ∧ 0 ≤ n ∧ n ≤ 64 ∧ 0 ≤ r ∧ r ≤ n)) := by show ¬ _; simpa [volOk] using h
  clear h
  go_enter Try.func25, Try.ntmps25
  go_wp2
  all_goals first
    | (go_ret2; exact ⟨rfl, rfl⟩)
    | (exfalso; have := H.out; omega)

set_option maxHeartbeats 2000000 in
theorem volumeOk_any (q n r : Nat) (w : World) (hq : 2 ≤ q) (hq2 : q ≤ 256) (hn : n ≤ 64) (hr : r ≤ n) :
    Calls Try.prog 25 #[.int .i64 (q : Nat), .int .i64 (n : Nat), .int .i64 (r : Nat)] w (NatOkPost (vol q n (r + 1)) w) := by
  go_enter Try.func25, Try.ntmps25
  go_wp2_with fail
  refine (volume_any q n r w (by omega) hq2 hn hr).mono ?_
  rintro e w1 ⟨A, c, rfl, h1, h2, h3, h4⟩
  go_wp2
  go_ret2
  exact ⟨A, c, rfl, h1, h2, h3, h4⟩

set_option maxHeartbeats 4000000 in
theorem boundsVolumes_any (q n r : Int) (w : World) :
    Calls Try.prog 5 #[.int .i64 q, .int .i64 n, .int .i64 r] w fun e w' => e = .returned (.bool true) ∧ Below w.heap.size w w' := by
  cases hv : volOk q n r
  · have HV := hid hv
    go_enter Try.func5, Try.ntmps5
    clear hv
    go_wp2_with fail
    refine (volumeErr_any q n r w HV.out).mono ?_
    rintro e w1 ⟨rfl, rfl⟩
    go_wp2_with fail
    refine (volumeRange_any q n r w).mono ?_
    rintro e w1 ⟨rfl, rfl⟩
    rw [HV.out]
    go_wp2
    go_ret
    exact ⟨rfl, Below.refl _ _⟩
  · have HV := hid hv
    have hr : 2 ≤ q ∧ q ≤ 256 ∧ 0 ≤ n ∧ n ≤ 64 ∧ 0 ≤ r ∧ r ≤ n := by simpa [volOk] using hv
    obtain ⟨q, rfl⟩ := Int.eq_ofNat_of_zero_le (show 0 ≤ q by omega)
    obtain ⟨n, rfl⟩ := Int.eq_ofNat_of_zero_le (show 0 ≤ n by omega)
    obtain ⟨r, rfl⟩ := Int.eq_ofNat_of_zero_le (show 0 ≤ r by omega)
    obtain ⟨h1, h2, h3, h4, h5, h6⟩ := hr
    have hdl := dl_vol (q := q) (n := n) (k := r + 1) (by omega) (by omega) (by omega)
    clear hv
    go_enter Try.func5, Try.ntmps5
    go_wp2_with fail
    refine (volumeOk_any q n r w (by omega) (by omega) (by omega) (by omega)).mono ?_
    rintro e w1 ⟨A, c, rfl, g1, g2, g3, g4⟩
    go_wp2_with fail
    refine (volumeRange_any q n r w1).mono ?_
    rintro e w2 ⟨rfl, rfl⟩
    rw [HV.out]
    go_wp2_with fail
    refine (refVolume_any q n r w1 (by omega) (by omega) (by omega) (by omega)).mono ?_
    rintro e w2 ⟨A2, c2, rfl, k1, k2, k3, k4⟩
    have g5 := g3.on k4
    have hB := onS g4 k4
    clear g3 g4 k4
    go_wp2_with fail
    refine (refSame_any A A2 c c2 _ w2 g5 k3 (by omega)).mono ?_
    rintro e w3 ⟨rfl, hb⟩
    have hB3 := onS hB hb
    clear g5 k3 hb hB
    go_wp2
    go_ret
    exact ⟨rfl, hB3⟩

theorem boundsVolumes_law {q n r : Int} {w : World} (_h1 : (Lit.int .i64 q).wf = true) (_h2 : (Lit.int .i64 n).wf = true) (_h3 : (Lit.int .i64 r).wf = true) :
    Calls Try.prog 5 #[.int .i64 q, .int .i64 n, .int .i64 r] w fun e w' => e = .returned (.bool true) ∧ Below w.heap.size w w' := boundsVolumes_any q n r w
end Go.Proofs.Ytgininddoalenaa
