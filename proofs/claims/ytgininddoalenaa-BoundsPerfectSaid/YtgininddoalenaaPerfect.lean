/- The law BoundsPerfect. -/
import Derived.Test.YtgininddoalenaaFormulasLaw
namespace Go.Proofs.Ytgininddoalenaa
open Go.RowKit

/-- The first k powers of q, added up. -/
def geo (q : Nat) : Nat → Nat
  | 0 => 0
  | k + 1 => geo q k + q ^ k
theorem geo_mul (q k : Nat) (hq : 1 ≤ q) : geo q k * (q - 1) + 1 = q ^ k := by
  obtain ⟨p, rfl⟩ : ∃ p, q = p + 1 := ⟨q - 1, by omega⟩
  rw [Nat.add_sub_cancel]
  induction k with
  | zero => simp [geo]
  | succ k ih =>
    simp only [geo]
    rw [Nat.pow_succ, ← ih]
    grind
theorem geo_ge (q k : Nat) (hq : 1 ≤ q) : k ≤ geo q k := by
  induction k with
  | zero => simp
  | succ k ih =>
    simp only [geo]
    have : 0 < q ^ k := Nat.pow_pos hq
    omega
theorem chs_one (n : Nat) : chs n 1 = n := by
  induction n with
  | zero => rfl
  | succ n ih => simp only [chs]; rw [ih]; omega
theorem ham_perfect (q r : Nat) (hq : 2 ≤ q) : hamN q (geo q r) 3 = q ^ (geo q r - r) := by
  unfold hamN
  have h1 : vol q (geo q r) ((3 - 1) / 2 + 1) = q ^ r := by
    have h := geo_mul q r (by omega)
    show vol q (geo q r) 2 = _
    simp only [vol]
    rw [chs_zero, chs_one, Nat.pow_zero, Nat.pow_one]
    omega
  rw [h1, Nat.pow_div (geo_ge q r (by omega)) (by omega)]

theorem wf_u8 {n : Int} (h : (Lit.int .u8 n).wf = true) : 0 ≤ n ∧ n ≤ 255 := by
  simpa [Lit.wf, IntKind.min, IntKind.max, IntKind.signed, IntKind.bits] using h

set_option maxRecDepth 100000 in
set_option maxHeartbeats 4000000 in
theorem boundsPerfect_nat (q r : Nat) (w : World) (hq : q ≤ 255) (hr : r ≤ 255) :
    Calls Try.prog 8 #[.int .u8 (q : Nat), .int .u8 (r : Nat)] w fun e w' => e = .returned (.bool true) ∧ Below w.heap.size w w' := by
  go_enter Try.func8, Try.ntmps8
  go_wp2
  go_loopg [7, 5, 6] r (fun gg iv nv' pv wx => ∃ i n p : Nat, iv = .int .i64 (i : Nat) ∧ nv' = .int .i64 (n : Nat) ∧ pv = .int .i64 (p : Nat) ∧ i ≤ r ∧ r ≤ i + gg ∧ n ≤ 64 ∧ p ≤ 16320 ∧ Hid (n = geo q i) ∧ Hid (p = q ^ i) ∧ w = wx)
  case atStart => exact ⟨0, 0, 1, rfl, rfl, rfl, by omega, by omega, by omega, by omega, hid rfl, hid rfl, rfl⟩
  case round =>
    obtain ⟨i, n, p, rfl, rfl, rfl, hi, hig, hn, hp, HN, HP, rfl⟩ := hrel
    by_cases hlt : i < r
    · have hlt' : (i : Int) < (r : Int) := by omega
      obtain ⟨pq, hpq⟩ : ∃ pq, pq = p * q := ⟨_, rfl⟩
      have e1 : (p : Int) * (q : Int) = (pq : Int) := by rw [hpq, Int.natCast_mul]
      have hpqb : pq ≤ 16320 * 255 := by rw [hpq]; exact Nat.mul_le_mul hp hq
      have HN2 : Hid (n + p = geo q (i + 1)) := by show _ = geo q i + q ^ i; rw [HN.out, HP.out]
      have HP2 : Hid (pq = q ^ (i + 1)) := by show _ = _; rw [hpq, HP.out, Nat.pow_succ]
      by_cases hbig : 64 < n + p
      · have hb' : (64 : Int) < (n : Int) + (p : Int) := by omega
        clear hpq
        go_wp2
        go_ret
        exact ⟨rfl, Below.refl _ _⟩
      · have hb' : ¬ (64 : Int) < (n : Int) + (p : Int) := by omega
        have hpb : pq ≤ 16320 := by
          have h1 : p * q ≤ 64 * 255 := Nat.mul_le_mul (by omega) hq
          omega
        clear hpq
        go_wp2
        go_roundg (gk - 1)
        case measure => omega
        case rel => exact ⟨i + 1, n + p, pq, by go_num, by go_num, rfl, by omega, by omega, by omega, hpb, HN2, HP2, rfl⟩
    · obtain rfl : i = r := by omega
      have hlt' : ¬ (i : Int) < (i : Int) := by omega
      by_cases hq2 : q < 2
      · have hq' : (q : Int) < 2 := by omega
        go_wp2
        go_ret
        exact ⟨rfl, Below.refl _ _⟩
      · have hq' : ¬ (q : Int) < 2 := by omega
        by_cases hn3 : n < 3
        · have hn' : (n : Int) < 3 := by omega
          go_wp2
          go_ret
          exact ⟨rfl, Below.refl _ _⟩
        · have hn' : ¬ (n : Int) < 3 := by omega
          have hrange : rangeOk (q : Int) (n : Int) ((3 : Nat) : Int) = true := by simp [rangeOk]; omega
          have HR := hid hrange
          have hin : i ≤ n := by rw [HN.out]; exact geo_ge q i (by omega)
          have HH : Hid (hamN q n 3 = q ^ (n - i)) := by have := ham_perfect q i (by omega); rw [← HN.out] at this; exact this
          have E1 := hid (show ((n : Int) - (i : Int)) = ((n - i : Nat) : Int) by omega)
          have hd := dl_power (q := q) (n := n - i) (by omega) (by omega)
          have hq1 : dl q ≤ 1 := dl_le (by omega)
          clear hrange hlt'
          go_wp2_with fail
          refine (hamOk_any q n 3 w HR.out (by omega) (by omega) (by omega) (by omega) (by omega)).mono ?_
          rintro e w1 ⟨A, c, rfl, h1, h2, h3, h4⟩
          rw [HH.out] at h1 h3 ⊢
          go_wp2_with fail
          refine (refOf_any q w1 (by omega)).mono ?_
          rintro e w2 ⟨A2, c2, rfl, g1, g2, g3, g4⟩
          have h5 := h3.on g4
          have hB2 := onS h4 g4
          clear h3 h4 g4
          go_wp2_with fail
          rw [E1.out]
          refine (refPow_any A2 c2 q (n - i) w2 g3 g1 g2 (by omega) (by omega) (by omega)).mono ?_
          rintro e w3 ⟨A3, c3, rfl, k1, k2, k3, k4⟩
          have h6 := h5.on k4
          have hB3 := onS hB2 k4
          clear h5 hB2 k4 g3
          go_wp2_with fail
          refine (refSame_any A A3 c c3 _ w3 h6 k3 (by omega)).mono ?_
          rintro e w4 ⟨rfl, hb4⟩
          have hB4 := onS hB3 hb4
          clear h6 k3 hB3 hb4
          go_wp2
          go_ret
          exact ⟨rfl, hB4⟩

theorem boundsPerfect_law {q r : Int} {w : World} (h1 : (Lit.int .u8 q).wf = true) (h2 : (Lit.int .u8 r).wf = true) :
    Calls Try.prog 8 #[.int .u8 q, .int .u8 r] w fun e w' => e = .returned (.bool true) ∧ Below w.heap.size w w' := by
  obtain ⟨a, b⟩ := wf_u8 h1
  obtain ⟨c, d⟩ := wf_u8 h2
  obtain ⟨q, rfl⟩ := Int.eq_ofNat_of_zero_le a
  obtain ⟨r, rfl⟩ := Int.eq_ofNat_of_zero_le c
  exact boundsPerfect_nat q r w (by omega) (by omega)
end Go.Proofs.Ytgininddoalenaa
