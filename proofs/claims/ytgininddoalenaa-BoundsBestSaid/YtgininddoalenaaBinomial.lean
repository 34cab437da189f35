/- nat.Binomial. -/
import Derived.Test.YtgininddoalenaaPow
import Derived.Test.YtgininddoalenaaDigit
import Derived.Test.YtgininddoalenaaChoose
namespace Go.Proofs.Ytgininddoalenaa
open Go.RowKit

theorem digit_nat (A : Option Addr) (c x b : Nat) (w : World) (h : NatOk w w.heap.size A x) (hn : dl x ≤ 536870912) (hb0 : 0 < b) (hb1 : b < 4294967296) :
    Calls Try.prog 129 #[.slice A (dl x) c, .int .u32 (b : Nat)] w (DigitPost x b w) := by
  have := digit_any A (dl x) c b (dg x) w h (dg_all x) hn hb0 hb1
  rwa [nv_dg] at this
/-- One step of the product formula. -/
theorem chs_div (n k : Nat) : chs n k * (n - k) / (k + 1) = chs n (k + 1) := by
  have h := chs_step n k
  rw [Nat.mul_comm, ← h]
  exact Nat.mul_div_cancel_left _ (by omega)
theorem dl_chs (n k : Nat) (hn : n ≤ 4096) : dl (chs n k) ≤ 129 := by
  obtain ⟨e, he⟩ : ∃ e, e = 129 := ⟨_, rfl⟩
  rw [← he]
  refine dl_le (Nat.lt_of_le_of_lt (chs_le_pow n k) ?_)
  have h1 : (2 : Nat) ^ n < 2 ^ (32 * e) := Nat.pow_lt_pow_right (by omega) (by omega)
  rw [Nat.pow_mul] at h1
  exact h1

set_option maxHeartbeats 4000000 in
theorem binomial_any (n k : Nat) (w : World) (hn : n ≤ 4096) (hk : k ≤ n) :
    Calls Try.prog 114 #[.int .i64 (n : Nat), .int .i64 (k : Nat)] w (NatOkPost (chs n k) w) := by
  obtain ⟨m, hm, hme, hmc⟩ : ∃ m : Nat, m ≤ n ∧ min (k : Int) ((n : Int) - (k : Int)) = (m : Int) ∧ chs n k = chs n m := by
    by_cases h : k ≤ n - k
    · exact ⟨k, hk, by omega, rfl⟩
    · exact ⟨n - k, by omega, by omega, chs_symm hk⟩
  have hone := natOk_one (w := w) 77 (x := 1) (by omega) (by omega)
  have d1 := hid (dl_small (x := 1) (by omega) (by omega))
  have c0 := hid (chs_zero n)
  have HMC := hid hmc
  clear hmc
  have b1 : decide ((n : Int) < 0) = false := by simp
  have b2 : decide ((4096 : Int) < (n : Int)) = false := by simp; omega
  have b3 : decide ((k : Int) < 0) = false := by simp
  have b4 : decide (n < k) = false := by simp; omega
  go_enter Try.func114, Try.ntmps114
  go_wp2
  go_loopg [27, 6] m (fun gg iv ov wx => ∃ i : Nat, ∃ A c, iv = .int .i64 (i : Nat) ∧ ov = .slice A (dl (chs n i)) c ∧ i ≤ m ∧ m ≤ i + gg ∧ dl (chs n i) ≤ c ∧ c ≤ maxLen ∧ NatOk wx wx.heap.size A (chs n i) ∧ Below w.heap.size w wx)
  case atStart => exact ⟨0, _, 1, rfl, by rw [c0.out, d1.out], by omega, by omega, by rw [c0.out, d1.out]; omega, by unfold maxLen; omega, by rw [c0.out]; exact hone, (Below.refl _ _).alloc (Nat.le_refl _) _⟩
  case round =>
    clear hone
    obtain ⟨i, A, c, rfl, rfl, hi, hig, hc, hcm, hA, hB⟩ := hrel
    have hd := dl_chs n i hn
    by_cases hlt : i < m
    · have e1 : ((n - i : Nat) : Int) = (n : Int) - (i : Int) := by omega
      have h1 := natOk_one (w := wr) 77 (x := n - i) (by omega) (by omega)
      have hd1 := dl_small (x := n - i) (by omega) (by omega)
      rw [e1] at h1
      have hA1 := hA.on (below_one wr (Obj.cells #[Value.int .u32 ((n : Int) - (i : Int))] 77))
      have hB1 := hB.alloc hB.size (Obj.cells #[Value.int .u32 ((n : Int) - (i : Int))] 77)
      have CT := fun W => times_nat A (some ⟨wr.heap.size, 0, none⟩) c 1 (chs n i) (n - i) W
      rw [hd1] at CT
      have CD := fun A c x W (h : NatOk W W.heap.size A x) (hx : dl x ≤ 536870912) => digit_nat A c x (i + 1) W h hx (by omega) (by omega)
      have HD := hid (chs_div n i)
      have HDS : Hid (dl (chs n i * (n - i)) ≤ 536870912) := by
        have h2 := lt_pow_dl (chs n i)
        have h3 : (4294967296 : Nat) ^ dl (chs n i) ≤ 4294967296 ^ 129 := Nat.pow_le_pow_right (by omega) hd
        have h4 : chs n i * (n - i) < 4294967296 ^ 130 := by
          rw [Nat.pow_succ]
          exact Nat.lt_of_lt_of_le (Nat.mul_lt_mul_of_lt_of_le (Nat.lt_of_lt_of_le h2 h3) (show n - i ≤ 4294967296 by omega) (by omega)) (Nat.le_refl _)
        have := dl_le h4
        show _ ≤ _
        omega
      clear e1 hd1 hA hB
      go_wp2_with fail
      refine (CT _ hA1 h1 (by omega) (by omega)).mono ?_
      rintro e w2 ⟨A2, c2, rfl, g1, g2, g3, g4⟩
      have hB2 := onS hB1 g4
      clear g4 CT hA1 h1 hB1
      go_wp2_with fail
      refine (CD A2 c2 _ w2 g3 HDS.out).mono ?_
      rintro e w3 ⟨A3, c3, rfl, f1, f2, f3, f4⟩
      rw [HD.out] at f1 f3 ⊢
      have hB3 := onS hB2 f4
      clear f4 CD g3
      go_wp2
      go_roundg (gk - 1)
      case measure => omega
      case rel => exact ⟨i + 1, A3, c3, by go_num, rfl, by omega, by omega, f1, f2, f3, hB3⟩
    · obtain rfl : i = m := by omega
      go_wp2_with fail
      refine (trim_nat A c (chs n i) wr hA hc hcm (by omega)).mono ?_
      rintro e w1 ⟨A', c', rfl, g1, g2, g3, g4⟩
      have hB2 := onS hB g4
      clear g4
      go_wp2
      go_ret2
      exact ⟨A', c', by rw [HMC.out]; rfl, by rw [HMC.out]; exact g1, g2, by rw [HMC.out]; exact g3, hB2⟩
end Go.Proofs.Ytgininddoalenaa
