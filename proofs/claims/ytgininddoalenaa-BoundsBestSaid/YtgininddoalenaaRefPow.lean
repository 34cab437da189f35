/- codewrightref01.Pow where the result is not too great. -/
import Derived.Test.YtgininddoalenaaRefMul
namespace Go.Proofs.Ytgininddoalenaa
open Go.RowKit

theorem pow_bit {x n d : Nat} : x ^ (n / (2 * d)) * x ^ (n / (2 * d)) * (if n / d % 2 = 1 then x else 1) = x ^ (n / d) := by
  have e : n / (2 * d) = n / d / 2 := by rw [Nat.div_div_eq_div_mul, Nat.mul_comm d 2]
  rw [e, ← Nat.pow_add]
  split
  · rename_i h
    rw [← Nat.pow_succ]
    congr 1
    omega
  · rw [Nat.mul_one]
    congr 1
    omega

set_option maxHeartbeats 4000000 in
theorem refPow_any (A : Option Addr) (c x n : Nat) (w : World) (h : NatOk w w.heap.size A x) (hc : dl x ≤ c) (hm : c ≤ maxLen) (hn : dl x ≤ 1048576) (hnn : n ≤ 131072) (hbig : dl (x ^ n) ≤ 4096) :
    Calls Try.prog 37 #[.slice A (dl x) c, .int .i64 (n : Nat)] w (NatOkPost (x ^ n) w) := by
  have d1 := hid (dl_small (x := 1) (by omega) (by omega))
  go_enter Try.func37, Try.ntmps37
  go_wp2_with fail
  refine (refTrim_nat A c x w h hc hm (by omega)).mono ?_
  rintro e w1 ⟨A1, c1, rfl, f1, f2, f3, f4⟩
  have hone := natOk_one (w := w1) 77 (x := 1) (by omega) (by omega)
  clear h
  by_cases h0 : n = 0
  · subst h0
    have H := hid (show x ^ 0 = 1 from Nat.pow_zero x)
    go_wp2
    go_ret2
    exact ⟨_, 1, by rw [H.out, d1.out]; rfl, by rw [H.out, d1.out]; omega, by unfold maxLen; omega, by rw [H.out]; exact hone, f4.alloc f4.size _⟩
  · have n0 : ((n : Int) == 0) = false := by simp; omega
    go_wp2_with fail
    refine (refBits_any A1 c1 x w1 f3 f1 f2 (by omega)).mono ?_
    rintro e w2 ⟨rfl, g4⟩
    have hB2 := onS f4 g4
    have hx2 := f3.on g4
    clear hone f3 g4 f4
    by_cases hl : nlen x ≤ 1
    · have H := hid (show x ^ n = x by
        by_cases e : x = 0
        · rw [e]; exact Nat.zero_pow (by omega)
        · have : nlen x ≠ 0 := mt nlen_eq_zero.1 e
          have : x = 1 := nlen_eq_one.1 (by omega)
          rw [this]; exact Nat.one_pow n)
      have hl2 : ((nlen x : Nat) : Int) ≤ 1 := by omega
      go_wp2
      go_ret2
      exact ⟨A1, c1, by rw [H.out]; rfl, by rw [H.out]; exact f1, f2, by rw [H.out]; exact hx2, hB2⟩
    · have hl2 : ¬ ((nlen x : Nat) : Int) ≤ 1 := by omega
      have hx0 : 0 < x := by
        rcases Nat.eq_zero_or_pos x with e | e
        · rw [e, nlen_zero] at hl; omega
        · exact e
      have HBG := hid hbig
      have hone2 := natOk_one (w := w2) 77 (x := 1) (by omega) (by omega)
      have hx3 := hx2.on (below_one w2 (Obj.cells #[Value.int .u32 ((1 : Nat) : Int)] 77))
      have hB3 := hB2.alloc hB2.size (Obj.cells #[Value.int .u32 ((1 : Nat) : Int)] 77)
      have HS : Hid (x ^ (n / (2 * 262144)) = 1) := by show _ = _; rw [Nat.div_eq_of_lt (by omega), Nat.pow_zero]
      go_wp2
      go_loopg [7, 6] 20 (fun gg dv ov wx => ∃ d j o : Nat, ∃ Ao co, dv = .int .i64 (d : Nat) ∧ ov = .slice Ao (dl o) co ∧ Hid ((d = 0 ∧ o = x ^ n ∧ 0 ≤ gg) ∨ (d = 2 ^ j ∧ j + 1 ≤ gg ∧ o = x ^ (n / (2 * d)))) ∧ d ≤ 262144 ∧ dl o ≤ 4096 ∧ dl o ≤ co ∧ co ≤ maxLen ∧ NatOk wx wx.heap.size Ao o ∧ NatOk wx wx.heap.size A1 x ∧ Below w.heap.size w wx)
      case atStart => exact ⟨262144, 18, 1, _, 1, rfl, by rw [d1.out], hid (.inr ⟨by decide, by omega, HS.out.symm⟩), by omega, by rw [d1.out]; omega, by rw [d1.out]; omega, by unfold maxLen; omega, hone2, hx3, hB3⟩
      case round =>
        clear hone2 hx3 hB3 hB2 hx2 HS
        obtain ⟨d, j, o, Ao, co, rfl, rfl, HJ, hd, hdo, ho1, ho2, hAo, hAx, hB⟩ := hrel
        by_cases hd0 : d = 0
        · have HO : Hid (o = x ^ n) := by
            rcases HJ.out with ⟨_, e, _⟩ | ⟨e, _⟩
            · exact e
            · have : 0 < 2 ^ j := Nat.pow_pos (by omega)
              exfalso; omega
          subst hd0
          go_wp2
          go_ret2
          exact ⟨Ao, co, by rw [← HO.out]; rfl, by rw [← HO.out]; exact ho1, ho2, by rw [← HO.out]; exact hAo, hB⟩
        · have HJ2 : Hid (d = 2 ^ j ∧ j + 1 ≤ gk ∧ o = x ^ (n / (2 * d))) := by
            rcases HJ.out with ⟨e, _⟩ | e
            · exact absurd e hd0
            · exact e
          have hgk : 0 < gk := by have := HJ2.out.2.1; omega
          have hdp : (0 : Int) < (d : Int) := by omega
          obtain ⟨q, hq⟩ : ∃ q, q = n / d := ⟨_, rfl⟩
          have hq1 : (n : Int).tdiv (d : Int) = (q : Int) := by rw [hq, Int.tdiv_eq_ediv_of_nonneg (by omega)]; rfl
          have hqn : q ≤ n := by rw [hq]; exact Nat.div_le_self _ _
          have hwq : IntKind.i64.wrap (q : Int) = (q : Int) := IntWalk.i64_in _ (by omega)
          have hdne : ((d : Int) == 0) = false := by simp; omega
          have HQ := hid hq
          have hle : Hid (x ^ q ≤ x ^ n) := Nat.pow_le_pow_right hx0 hqn
          have hdq : dl (x ^ q) ≤ 4096 := by have := dl_mono hle.out; have := HBG.out; omega
          have HB2 : Hid (∀ oo : Nat, oo = x ^ q → ∃ j', (d / 2 = 0 ∧ oo = x ^ n ∧ 0 ≤ gk - 1) ∨ (d / 2 = 2 ^ j' ∧ j' + 1 ≤ gk - 1 ∧ oo = x ^ (n / (2 * (d / 2))))) := fun oo hoo => by
            obtain ⟨e1, e2, _⟩ := HJ2.out
            cases j with
            | zero =>
              rw [Nat.pow_zero] at e1
              refine ⟨0, .inl ⟨by omega, ?_, by omega⟩⟩
              rw [hoo, HQ.out, e1, Nat.div_one]
            | succ j =>
              rw [Nat.pow_succ] at e1
              refine ⟨j, .inr ⟨by omega, by omega, ?_⟩⟩
              rw [hoo, HQ.out, show 2 * (d / 2) = d by omega]
          have hd2 : ((d : Int) / 2) = ((d / 2 : Nat) : Int) := by omega
          have HD2 := hid hd2
          have HP : Hid (o * o * (if q % 2 = 1 then x else 1) = x ^ q) := by
            have := pow_bit (x := x) (n := n) (d := d)
            rw [← HJ2.out.2.2, ← HQ.out] at this
            exact this
          clear hq hd2
          go_wp2_with fail
          refine (refMul_nat Ao Ao co co o o wr hAo hAo (by omega) (by omega)).mono ?_
          rintro e w3 ⟨A3, c3, rfl, g1, g2, g3, g4⟩
          have hB3 := onS hB g4
          have hAx3 := hAx.on g4
          clear hAo hAx g4 hB
          by_cases hpar : q % 2 = 1
          · have hp1 : (q : Int) % 2 = 1 := by omega
            have hp2 : (q : Int).tmod 2 = 1 := by rw [Int.tmod_eq_emod_of_nonneg (by omega)]; exact hp1
            have HE : Hid (o * o * x = x ^ q) := by have := HP.out; rwa [if_pos hpar] at this
            have hdoo : dl (o * o) ≤ 536870912 := by
              have h1 : o * o ≤ o * o * x := Nat.le_mul_of_pos_right _ hx0
              rw [HE.out] at h1
              have := dl_mono h1
              omega
            go_wp2_with fail
            refine (refMul_nat A3 A1 c3 c1 (o * o) x w3 g3 hAx3 hdoo (by omega)).mono ?_
            rintro e w4 ⟨A4, c4, rfl, k1, k2, k3, k4⟩
            rw [HE.out] at k1 k3 ⊢
            have hB4 := onS hB3 k4
            have hAx4 := hAx3.on k4
            have hdq' : ((dl (x ^ q) : Nat) : Int) ≤ 4096 := by omega
            obtain ⟨j', hj'⟩ := HB2.out _ rfl
            have HJ' := hid hj'
            clear hj' g3 hAx3 k4 hB3
            go_wp2
            go_roundg (gk - 1)
            case measure => omega
            case rel => exact ⟨d / 2, j', x ^ q, A4, c4, by rw [HD2.out], rfl, HJ', by omega, hdq, k1, k2, k3, hAx4, hB4⟩
          · have hp1 : (q : Int) % 2 = 0 := by omega
            have hp2 : (q : Int).tmod 2 = 0 := by rw [Int.tmod_eq_emod_of_nonneg (by omega)]; exact hp1
            have HE : Hid (o * o = x ^ q) := by have := HP.out; rwa [if_neg hpar, Nat.mul_one] at this
            rw [HE.out] at g1 g3 ⊢
            have hdq' : ((dl (x ^ q) : Nat) : Int) ≤ 4096 := by omega
            obtain ⟨j', hj'⟩ := HB2.out _ rfl
            have HJ' := hid hj'
            clear hj'
            go_wp2
            go_roundg (gk - 1)
            case measure => omega
            case rel => exact ⟨d / 2, j', x ^ q, A3, c3, by rw [HD2.out], rfl, HJ', by omega, hdq, g1, g2, g3, hAx3, hB3⟩
end Go.Proofs.Ytgininddoalenaa
