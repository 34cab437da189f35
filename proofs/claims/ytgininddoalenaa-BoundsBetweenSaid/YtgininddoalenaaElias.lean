/- The law BoundsElias. -/
import Derived.Test.YtgininddoalenaaFormulasLaw
namespace Go.Proofs.Ytgininddoalenaa
open Go.RowKit

/-- The denominator, the bound for one radius, the least of the first k bounds. -/
def eliDen (q n d w : Nat) : Int := ((q * w * w : Nat) : Int) - ((2 * (q - 1) * n * w : Nat) : Int) + (((q - 1) * n * d : Nat) : Int)
def eliB (q n d w : Nat) : Nat := ((q - 1) * n * d * q ^ n) / ((eliDen q n d w).toNat * vol q n (w + 1))
def eliBest (q n d : Nat) : Nat → Nat
  | 0 => q ^ n
  | w + 1 => if 0 < eliDen q n d w ∧ eliB q n d w < eliBest q n d w then eliB q n d w else eliBest q n d w
def eliEnd (q n : Nat) : Nat := (q - 1) * n / q + 1
theorem eliBest_le (q n d k : Nat) : eliBest q n d k ≤ q ^ n := by
  induction k with
  | zero => exact Nat.le_refl _
  | succ k ih =>
    simp only [eliBest]
    split
    · rename_i h; omega
    · exact ih
theorem eliDen_zero {q n d : Nat} (hq : 2 ≤ q) (hn : 1 ≤ n) (hd : 1 ≤ d) : 0 < eliDen q n d 0 := by
  unfold eliDen
  have : 0 < (q - 1) * n * d := Nat.mul_pos (Nat.mul_pos (by omega) (by omega)) (by omega)
  simp only [Nat.mul_zero]
  omega
theorem eliB_zero {q n d : Nat} (hq : 2 ≤ q) (hn : 1 ≤ n) (hd : 1 ≤ d) : eliB q n d 0 = q ^ n := by
  unfold eliB eliDen
  have h : 0 < (q - 1) * n * d := Nat.mul_pos (Nat.mul_pos (by omega) (by omega)) (by omega)
  have hv : vol q n 1 = 1 := by simp [vol, chs_zero]
  simp only [Nat.mul_zero, Nat.zero_add, hv, Nat.mul_one]
  rw [show (((0 : Nat) : Int) - ((0 : Nat) : Int) + (((q - 1) * n * d : Nat) : Int)).toNat = (q - 1) * n * d by omega]
  exact Nat.mul_div_cancel_left _ h
theorem eliBest_one {q n d : Nat} (hq : 2 ≤ q) (hn : 1 ≤ n) (hd : 1 ≤ d) : eliBest q n d 1 = eliB q n d 0 := by
  simp only [eliBest, eliB_zero hq hn hd]
  simp
theorem eliEnd_iff {q n w : Nat} (hq : 2 ≤ q) : w < eliEnd q n ↔ q * w ≤ (q - 1) * n := by
  unfold eliEnd
  rw [Nat.lt_succ_iff, Nat.le_div_iff_mul_le (by omega), Nat.mul_comm]
theorem eliEnd_le {q n : Nat} (hq : 2 ≤ q) : eliEnd q n ≤ n + 1 := by
  unfold eliEnd
  have : (q - 1) * n / q ≤ n := Nat.div_le_of_le_mul (Nat.mul_le_mul_right _ (by omega))
  omega

/-- The products of Elias's bound, as letters. -/
theorem eli_letters (q n d w : Nat) (hq : 2 ≤ q) (hq2 : q ≤ 256) (hn : n ≤ 64) (hd : d ≤ 64) (hw : w ≤ 65) : ∃ q1 a1 a2 b2 b3 c1 c2 : Nat, q1 = q - 1 ∧ a1 = q * w ∧ a2 = q * w * w ∧ b3 = 2 * (q - 1) * n * w ∧ c1 = (q - 1) * n ∧ c2 = (q - 1) * n * d ∧
    (q : Int) - 1 = (q1 : Int) ∧ (q : Int) * (w : Int) = (a1 : Int) ∧ (a1 : Int) * (w : Int) = (a2 : Int) ∧ 2 * (q1 : Int) * (n : Int) = (b2 : Int) ∧ (b2 : Int) * (w : Int) = (b3 : Int) ∧ (q1 : Int) * (n : Int) = (c1 : Int) ∧ (c1 : Int) * (d : Int) = (c2 : Int) ∧
    q1 ≤ 255 ∧ a1 ≤ 16640 ∧ a2 ≤ 1081600 ∧ b2 ≤ 32768 ∧ b3 ≤ 2129920 ∧ c1 ≤ 16384 ∧ c2 ≤ 1048576 := by
  have k1 : q * w ≤ 256 * 65 := Nat.mul_le_mul hq2 hw
  have k2 : q * w * w ≤ 16640 * 65 := Nat.mul_le_mul (by omega) hw
  have k3 : 2 * (q - 1) * n ≤ 512 * 64 := Nat.mul_le_mul (by omega) hn
  have k4 : 2 * (q - 1) * n * w ≤ 32768 * 65 := Nat.mul_le_mul (by omega) hw
  have k5 : (q - 1) * n ≤ 256 * 64 := Nat.mul_le_mul (by omega) hn
  have k6 : (q - 1) * n * d ≤ 16384 * 64 := Nat.mul_le_mul (by omega) hd
  refine ⟨q - 1, q * w, q * w * w, 2 * (q - 1) * n, 2 * (q - 1) * n * w, (q - 1) * n, (q - 1) * n * d, rfl, rfl, rfl, rfl, rfl, rfl, by omega, by rw [Int.natCast_mul], by rw [← Int.natCast_mul], by rw [Int.natCast_mul, Int.natCast_mul]; rfl, by rw [← Int.natCast_mul], by rw [← Int.natCast_mul], by rw [← Int.natCast_mul], by omega, by omega, by omega, by omega, by omega, by omega, by omega⟩

theorem dl_eliMul {q n c2 : Nat} (hq2 : q ≤ 256) (hn : n ≤ 64) (hc : c2 ≤ 1048576) : dl c2 ≤ 1 ∧ dl (c2 * q ^ n) ≤ 66 := by
  have h1 : dl c2 ≤ 1 := dl_le (by omega)
  have h2 := dl_power (q := q) (n := n) (by omega) (by omega)
  have := dl_mul_le h1 h2
  exact ⟨h1, by omega⟩

/-- The best that the program holds before round k. -/
def eliHeld (q n d k : Nat) : Nat := if k = 0 then 0 else eliBest q n d k

set_option maxRecDepth 100000 in
set_option maxHeartbeats 4000000 in
theorem eliasOk_any (q n d : Nat) (w : World) (h : rangeOk (q : Int) (n : Int) (d : Int) = true) (hq : 2 ≤ q) (hq2 : q ≤ 256) (hn1 : 1 ≤ n) (hn : n ≤ 64) (hd1 : 1 ≤ d) (hd : d ≤ n) :
    Calls Try.prog 38 #[.int .i64 (q : Nat), .int .i64 (n : Nat), .int .i64 (d : Nat)] w (SubPost (eliBest q n d (eliEnd q n)) w) := by
  have H := hid h
  have HI := hid (fun w => eliEnd_iff (n := n) (w := w) hq)
  have hend := eliEnd_le (n := n) hq
  have HDZ := hid (eliDen_zero hq hn1 hd1)
  have HB1 := hid (eliBest_one hq hn1 hd1)
  have hp := dl_power (q := q) (n := n) (by omega) (by omega)
  have HBL := hid (eliBest_le q n d)
  obtain ⟨q1, a1, a2, b2, b3, c1, c2, f1, f2, f3, f4, f5, f6, e1, e2, e3, e4, e5, e6, e7, l1, l2, l3, l4, l5, l6, l7⟩ := eli_letters q n d 0 hq hq2 hn (by omega) (by omega)
  have HL := hid (fun w hw => eli_letters q n d w hq hq2 hn (by omega) hw)
  obtain ⟨m1, m2⟩ := dl_eliMul (q := q) (n := n) (c2 := c2) hq2 hn l7
  have HF6 := hid f6
  clear h f1 f2 f3 f4 f5 f6 e2 e3 e4 e5 l2 l3 l4 l5
  go_enter Try.func38, Try.ntmps38
  go_wp2_with fail
  refine (out_any q n d w).mono ?_
  rintro e w1 ⟨rfl, rfl⟩
  rw [H.out]
  go_wp2_with fail
  refine (whole_any c2 w (by omega)).mono ?_
  rintro e w1 ⟨A, c, rfl, h1, h2, h3, h4⟩
  go_wp2_with fail
  refine (power_any q n w1 (by omega) (by omega)).mono ?_
  rintro e w2 ⟨A2, c2', rfl, g1, g2, g3, g4⟩
  have h5 := h3.on g4
  have hB2 := onS h4 g4
  clear h3 h4 g4
  go_wp2_with fail
  refine (mul_two 39 h5 g3 h1 g1 h2 g2 (by omega) (by omega) (by omega)).mono ?_
  rintro e w3 ⟨A3, c3, rfl, k1, k2, k3, k4⟩
  have hB3 := onS hB2 (onS (below_one w2 _) k4)
  clear h5 g3 hB2 k4
  go_wp2
  go_loopg [11, 8, 9] (eliEnd q n) (fun gg iv bv fv wx => ∃ k : Nat, ∃ Ab cb, iv = .int .i64 (k : Nat) ∧ bv = .slice Ab (dl (eliHeld q n d k)) cb ∧ fv = .bool (decide (0 < k)) ∧ k ≤ eliEnd q n ∧ eliEnd q n ≤ k + gg ∧ dl (eliHeld q n d k) ≤ cb ∧ cb ≤ maxLen ∧ NatOk wx wx.heap.size Ab (eliHeld q n d k) ∧ NatOk wx wx.heap.size A3 (c2 * q ^ n) ∧ Below w.heap.size w wx)
  case atStart => exact ⟨0, none, 0, rfl, by simp [eliHeld, dl_zero], by simp, by omega, by omega, by simp [eliHeld, dl_zero], by unfold maxLen; omega, fun i hi => absurd hi (by simp [eliHeld, dl_zero]), k3, hB3⟩
  case round =>
    clear k3 hB3
    obtain ⟨k, Ab, cb, rfl, rfl, rfl, hk, hkg, hcb, hcb2, hBk, hAll, hB⟩ := hrel
    obtain ⟨q1', a1, a2, b2, b3, c1', c2'', f1, f2, f3, f4, f5, f6, e1', e2, e3, e4, e5, e6', e7', l1', l2, l3, l4, l5, l6', l7'⟩ := HL.out k (by omega)
    obtain rfl : c2 = c2'' := by rw [f6, HF6.out]
    obtain rfl : q1 = q1' := by omega
    obtain rfl : c1 = c1' := by omega
    clear e1' e6' e7' l1' l6' l7' f1 f6
    have HI2 := HI.out k
    rw [← f2, ← f5] at HI2
    have HA : Hid (((a2 : Int) - (b3 : Int) + (c2 : Int)) = eliDen q n d k) := by show _ = _; unfold eliDen; rw [← f3, ← f4, ← HF6.out]
    clear f2 f3 f4 f5
    by_cases hlt : k < eliEnd q n
    · have ha1 : (a1 : Int) ≤ (c1 : Int) := by have := HI2.1 hlt; omega
      clear HI2
      have hke : k ≤ n := by omega
      by_cases hden : 0 < eliDen q n d k
      · obtain ⟨D, hD⟩ : ∃ D : Nat, eliDen q n d k = (D : Int) := Int.eq_ofNat_of_zero_le (by omega)
        have hA2 : ((a2 : Int) - (b3 : Int) + (c2 : Int)) = (D : Int) := by rw [HA.out, hD]
        have hD0 : ¬ (D : Int) ≤ 0 := by omega
        have hDb : D ≤ 4000000 := by omega
        have HDD : Hid ((eliDen q n d k).toNat = D) := by show _ = _; rw [hD]; omega
        have HPOS : Hid (0 < eliDen q n d k) := hden
        have hdD : dl D ≤ 1 := dl_le (by omega)
        have hdv := dl_vol (q := q) (n := n) (k := k + 1) (by omega) (by omega) (by omega)
        have hdm := dl_mul_le hdD hdv
        have HPM : Hid (0 < D * vol q n (k + 1)) := Nat.mul_pos (by omega) (vol_pos q n k)
        have HEB : Hid (c2 * q ^ n / (D * vol q n (k + 1)) = eliB q n d k) := by show _ = _; unfold eliB; rw [HDD.out, HF6.out]
        clear hD hden
        go_wp2_with fail
        refine (whole_any D wr (by omega)).mono ?_
        rintro e w4 ⟨A4, c4, rfl, p1, p2, p3, p4⟩
        have hBk4 := hBk.on p4
        have hAll4 := hAll.on p4
        have hB4 := onS hB p4
        clear hBk hAll hB p4
        go_wp2_with fail
        refine (volume_any q n k w4 (by omega) hq2 hn hke).mono ?_
        rintro e w5 ⟨A5, c5, rfl, r1, r2, r3, r4⟩
        have p5 := p3.on r4
        have hBk5 := hBk4.on r4
        have hAll5 := hAll4.on r4
        have hB5 := onS hB4 r4
        clear p3 hBk4 hAll4 hB4 r4
        go_wp2_with fail
        refine (mul_two 39 p5 r3 p1 r1 p2 r2 (by omega) (by omega) (by omega)).mono ?_
        rintro e w6 ⟨A6, c6, rfl, s1, s2, s3, s4⟩
        have hb6 := onS (below_one w5 _) s4
        have hBk6 := hBk5.on hb6
        have hAll6 := hAll5.on hb6
        have hB6 := onS hB5 hb6
        clear p5 r3 hBk5 hAll5 hB5 s4 hb6
        go_wp2_with fail
        refine (over_any A3 A6 c3 c6 (c2 * q ^ n) (D * vol q n (k + 1)) w6 hAll6 s3 k1 k2 s1 s2 (by omega) (by omega) HPM.out).mono ?_
        rintro e w7 ⟨A7, c7, rfl, t1, t2, t3, t4⟩
        rw [HEB.out] at t1 t3 ⊢
        have hBk7 := hBk6.on t4
        have hAll7 := hAll6.on t4
        have hB7 := onS hB6 t4
        clear s3 hBk6 hAll6 hB6 t4
        by_cases hk0 : k = 0
        · subst hk0
          have hh : eliHeld q n d 1 = eliB q n d 0 := by unfold eliHeld; rw [if_neg (by omega)]; exact HB1.out
          have HH := hid hh
          clear hh
          go_wp2
          go_roundg (gk - 1)
          case measure => omega
          case rel => exact ⟨1, A7, c7, rfl, by rw [HH.out], rfl, by omega, by omega, by rw [HH.out]; exact t1, t2, by rw [HH.out]; exact t3, hAll7, hB7⟩
        · have hkd : decide (0 < k) = true := by simp; omega
          have hkd' : decide ((0 : Int) < (k : Int)) = true := by simp; omega
          have hk0' : (0 : Int) < (k : Int) := by omega
          have HH : Hid (eliHeld q n d k = eliBest q n d k) := by show _ = _; unfold eliHeld; rw [if_neg hk0]
          have HH2 : Hid (eliHeld q n d (k + 1) = eliBest q n d (k + 1)) := by show _ = _; unfold eliHeld; rw [if_neg (by omega)]
          have hdb : dl (eliHeld q n d k) ≤ 65 := by rw [HH.out]; exact Nat.le_trans (dl_mono (HBL.out k)) hp
          go_wp2_with fail
          refine (natCmp_any A7 Ab c7 cb (eliB q n d k) (eliHeld q n d k) w7 t3 hBk7 t1 t2 hcb hcb2 (by omega)).mono ?_
          rintro e w8 ⟨rfl, hb8⟩
          have t4 := t3.on hb8
          have hBk8 := hBk7.on hb8
          have hAll8 := hAll7.on hb8
          have hB8 := onS hB7 hb8
          clear t3 hBk7 hAll7 hB7 hb8
          by_cases hless : eliB q n d k < eliHeld q n d k
          · have hc : cmpN (eliB q n d k) (eliHeld q n d k) < 0 := by rw [cmpN_lt hless]; omega
            have HN : Hid (eliHeld q n d (k + 1) = eliB q n d k) := by
              show _ = _
              rw [HH2.out]
              simp only [eliBest]
              rw [if_pos ⟨HPOS.out, by rw [← HH.out]; exact hless⟩]
            obtain ⟨z, hz⟩ : ∃ z, z = cmpN (eliB q n d k) (eliHeld q n d k) := ⟨_, rfl⟩
            rw [← hz] at hc ⊢
            clear hz hless
            go_wp2
            go_roundg (gk - 1)
            case measure => omega
            case rel => exact ⟨k + 1, A7, c7, by go_num, by rw [HN.out], by simp, by omega, by omega, by rw [HN.out]; exact t1, t2, by rw [HN.out]; exact t4, hAll8, hB8⟩
          · have hc : ¬ cmpN (eliB q n d k) (eliHeld q n d k) < 0 := by
              rcases Nat.lt_or_ge (eliHeld q n d k) (eliB q n d k) with e | e
              · rw [cmpN_gt e]; omega
              · rw [cmpN_eq (by omega)]; omega
            have HN : Hid (eliHeld q n d (k + 1) = eliHeld q n d k) := by
              show _ = _
              rw [HH2.out]
              simp only [eliBest]
              rw [if_neg (fun c => hless (by rw [HH.out]; exact c.2)), HH.out]
            obtain ⟨z, hz⟩ : ∃ z, z = cmpN (eliB q n d k) (eliHeld q n d k) := ⟨_, rfl⟩
            rw [← hz] at hc ⊢
            clear hz hless
            go_wp2
            go_roundg (gk - 1)
            case measure => omega
            case rel => exact ⟨k + 1, Ab, cb, by go_num, by rw [HN.out], by simp, by omega, by omega, by rw [HN.out]; exact hcb, hcb2, by rw [HN.out]; exact hBk8, hAll8, hB8⟩
      · have hA2 : ((a2 : Int) - (b3 : Int) + (c2 : Int)) ≤ 0 := by rw [HA.out]; omega
        have hk0 : k ≠ 0 := fun e => hden (by rw [e]; exact HDZ.out)
        have HN : Hid (eliHeld q n d (k + 1) = eliHeld q n d k) := by
          show _ = _
          unfold eliHeld
          rw [if_neg (by omega), if_neg hk0]
          simp only [eliBest]
          rw [if_neg (fun c => hden c.1)]
        clear hden
        go_wp2
        go_roundg (gk - 1)
        case measure => omega
        case rel => exact ⟨k + 1, Ab, cb, by go_num, by rw [HN.out], by simp; omega, by omega, by omega, by rw [HN.out]; exact hcb, hcb2, by rw [HN.out]; exact hBk, hAll, hB⟩
    · obtain rfl : k = eliEnd q n := by omega
      have ha1 : ¬ (a1 : Int) ≤ (c1 : Int) := by have := mt HI2.2 hlt; omega
      have HE : Hid (eliHeld q n d (eliEnd q n) = eliBest q n d (eliEnd q n)) := by show _ = _; unfold eliHeld; rw [if_neg (by unfold eliEnd; exact Nat.succ_ne_zero _)]
      clear HI2 hlt
      rw [HE.out] at hcb hBk
      rw [HE.out]
      go_wp2
      go_ret2
      exact ⟨Ab, cb, rfl, hcb, hcb2, hBk, hB⟩

set_option maxRecDepth 100000 in
set_option maxHeartbeats 4000000 in
theorem refElias_any (q n d : Nat) (w : World) (hq : 2 ≤ q) (hq2 : q ≤ 256) (hn : n ≤ 64) (hd : d ≤ n) :
    Calls Try.prog 40 #[.int .i64 (q : Nat), .int .i64 (n : Nat), .int .i64 (d : Nat)] w (NatPost (eliBest q n d (eliEnd q n)) w) := by
  have HI := hid (fun w => eliEnd_iff (n := n) (w := w) hq)
  have hend := eliEnd_le (n := n) hq
  have hp := dl_power (q := q) (n := n) (by omega) (by omega)
  have HBL := hid (eliBest_le q n d)
  have HL := hid (fun w hw => eli_letters q n d w hq hq2 hn (by omega) hw)
  have HM := hid (fun (c2 : Nat) (h : c2 ≤ 1048576) => dl_eliMul (q := q) (n := n) (c2 := c2) hq2 hn h)
  go_enter Try.func40, Try.ntmps40
  go_wp2_with fail
  refine (refPow34_any q n w (by omega) (by omega)).mono ?_
  rintro e w1 ⟨A, c, rfl, h1, h2, h3, h4⟩
  go_wp2
  go_loopg [8, 7] (eliEnd q n) (fun gg iv bv wx => ∃ k : Nat, ∃ Ab cb, iv = .int .i64 (k : Nat) ∧ bv = .slice Ab (dl (eliBest q n d k)) cb ∧ k ≤ eliEnd q n ∧ eliEnd q n ≤ k + gg ∧ dl (eliBest q n d k) ≤ cb ∧ cb ≤ maxLen ∧ NatOk wx wx.heap.size Ab (eliBest q n d k) ∧ Below w.heap.size w wx)
  case atStart => exact ⟨0, A, c, rfl, rfl, by omega, by omega, h1, h2, h3, h4⟩
  case round =>
    clear h3 h4
    obtain ⟨k, Ab, cb, rfl, rfl, hk, hkg, hcb, hcb2, hBk, hB⟩ := hrel
    obtain ⟨q1, a1, a2, b2, b3, c1, c2, f1, f2, f3, f4, f5, f6, e1, e2, e3, e4, e5, e6, e7, l1, l2, l3, l4, l5, l6, l7⟩ := HL.out k (by omega)
    obtain ⟨m1, m2⟩ := HM.out c2 l7
    have HI2 := HI.out k
    rw [← f2, ← f5] at HI2
    have HA : Hid (((a2 : Int) - (b3 : Int) + (c2 : Int)) = eliDen q n d k) := by show _ = _; unfold eliDen; rw [← f3, ← f4, ← f6]
    have HF6 := hid f6
    clear f1 f2 f3 f4 f5 f6
    by_cases hlt : k < eliEnd q n
    · have ha1 : (a1 : Int) ≤ (c1 : Int) := by have := HI2.1 hlt; omega
      clear HI2
      have hke : k ≤ n := by omega
      by_cases hden : 0 < eliDen q n d k
      · obtain ⟨D, hD⟩ : ∃ D : Nat, eliDen q n d k = (D : Int) := Int.eq_ofNat_of_zero_le (by omega)
        have hA2 : ((a2 : Int) - (b3 : Int) + (c2 : Int)) = (D : Int) := by rw [HA.out, hD]
        have hD0 : (0 : Int) < (D : Int) := by omega
        have hDb : D ≤ 4000000 := by omega
        have HDD : Hid ((eliDen q n d k).toNat = D) := by show _ = _; rw [hD]; omega
        have HPOS : Hid (0 < eliDen q n d k) := hden
        have hdD : dl D ≤ 1 := dl_le (by omega)
        have hdv := dl_vol (q := q) (n := n) (k := k + 1) (by omega) (by omega) (by omega)
        have hdm := dl_mul_le hdD hdv
        have HPM : Hid (0 < D * vol q n (k + 1)) := Nat.mul_pos (by omega) (vol_pos q n k)
        have HEB : Hid (c2 * q ^ n / (D * vol q n (k + 1)) = eliB q n d k) := by show _ = _; unfold eliB; rw [HDD.out, HF6.out]
        have hdb : dl (eliBest q n d k) ≤ 65 := Nat.le_trans (dl_mono (HBL.out k)) hp
        clear hD hden
        go_wp2_with fail
        refine (whole34_any c2 wr (by omega)).mono ?_
        rintro e w2 ⟨A2, d2, rfl, u1, u2, u3, u4⟩
        have hBk2 := hBk.on u4
        have hB2 := onS hB u4
        clear hBk hB u4
        go_wp2_with fail
        refine (refPow34_any q n w2 (by omega) (by omega)).mono ?_
        rintro e w3 ⟨A3, d3, rfl, v1, v2, v3, v4⟩
        have u5 := u3.on v4
        have hBk3 := hBk2.on v4
        have hB3 := onS hB2 v4
        clear hBk2 hB2 u3 v4
        go_wp2_with fail
        refine (refMul_nat A2 A3 d2 d3 _ _ w3 u5 v3 (by omega) (by omega)).mono ?_
        rintro e w4 ⟨A4, d4, rfl, k1, k2, k3, k4⟩
        have hBk4 := hBk3.on k4
        have hB4 := onS hB3 k4
        clear hBk3 hB3 u5 v3 k4
        go_wp2_with fail
        refine (whole34_any D w4 (by omega)).mono ?_
        rintro e w5 ⟨A5, d5, rfl, p1, p2, p3, p4⟩
        have k5 := k3.on p4
        have hBk5 := hBk4.on p4
        have hB5 := onS hB4 p4
        clear hBk4 hB4 p4 k3
        go_wp2_with fail
        refine (refVolume_any q n k w5 (by omega) hq2 hn hke).mono ?_
        rintro e w6 ⟨A6, d6, rfl, r1, r2, r3, r4⟩
        have p5 := p3.on r4
        have k6 := k5.on r4
        have hBk6 := hBk5.on r4
        have hB6 := onS hB5 r4
        clear p3 hBk5 k5 hB5 r4
        go_wp2_with fail
        refine (refMul_nat A5 A6 d5 d6 _ _ w6 p5 r3 (by omega) (by omega)).mono ?_
        rintro e w7 ⟨A7, d7, rfl, s1, s2, s3, s4⟩
        have k7 := k6.on s4
        have hBk7 := hBk6.on s4
        have hB7 := onS hB6 s4
        clear p5 r3 hBk6 k6 hB6 s4
        go_wp2_with fail
        refine (floor_any A4 A7 d4 d7 (c2 * q ^ n) (D * vol q n (k + 1)) w7 k7 s3 k1 k2 s1 s2 (by omega) (by omega) HPM.out).mono ?_
        rintro e w8 ⟨A8, d8, rfl, t1, t2, t3, t4⟩
        rw [HEB.out] at t1 t3 ⊢
        have hBk8 := hBk7.on t4
        have hB8 := onS hB7 t4
        clear s3 hBk7 k7 hB7 t4
        have hde : dl (eliB q n d k) ≤ 66 := by rw [← HEB.out]; exact Nat.le_trans (dl_mono (Nat.div_le_self _ _)) m2
        go_wp2_with fail
        refine (refCmp_any A8 Ab d8 cb (eliB q n d k) (eliBest q n d k) w8 t3 hBk8 (by omega) (by omega)).mono ?_
        rintro e w9 ⟨rfl, rfl⟩
        by_cases hless : eliB q n d k < eliBest q n d k
        · have hc : cmpN (eliB q n d k) (eliBest q n d k) < 0 := by rw [cmpN_lt hless]; omega
          have HN : Hid (eliBest q n d (k + 1) = eliB q n d k) := by
            show _ = _
            simp only [eliBest]
            rw [if_pos ⟨HPOS.out, hless⟩]
          obtain ⟨z, hz⟩ : ∃ z, z = cmpN (eliB q n d k) (eliBest q n d k) := ⟨_, rfl⟩
          rw [← hz] at hc ⊢
          clear hz hless
          go_wp2
          go_roundg (gk - 1)
          case measure => omega
          case rel => exact ⟨k + 1, A8, d8, by go_num, by rw [HN.out], by omega, by omega, by rw [HN.out]; exact t1, t2, by rw [HN.out]; exact t3, hB8⟩
        · have hc : ¬ cmpN (eliB q n d k) (eliBest q n d k) < 0 := by
            rcases Nat.lt_or_ge (eliBest q n d k) (eliB q n d k) with e | e
            · rw [cmpN_gt e]; omega
            · rw [cmpN_eq (by omega)]; omega
          have HN : Hid (eliBest q n d (k + 1) = eliBest q n d k) := by
            show _ = _
            simp only [eliBest]
            rw [if_neg (fun c => hless c.2)]
          obtain ⟨z, hz⟩ : ∃ z, z = cmpN (eliB q n d k) (eliBest q n d k) := ⟨_, rfl⟩
          rw [← hz] at hc ⊢
          clear hz hless
          go_wp2
          go_roundg (gk - 1)
          case measure => omega
          case rel => exact ⟨k + 1, Ab, cb, by go_num, by rw [HN.out], by omega, by omega, by rw [HN.out]; exact hcb, hcb2, by rw [HN.out]; exact hBk8, hB8⟩
      · have hA2 : ¬ (0 : Int) < ((a2 : Int) - (b3 : Int) + (c2 : Int)) := by rw [HA.out]; omega
        have HN : Hid (eliBest q n d (k + 1) = eliBest q n d k) := by
          show _ = _
          simp only [eliBest]
          rw [if_neg (fun c => hden c.1)]
        clear hden
        go_wp2
        go_roundg (gk - 1)
        case measure => omega
        case rel => exact ⟨k + 1, Ab, cb, by go_num, by rw [HN.out], by omega, by omega, by rw [HN.out]; exact hcb, hcb2, by rw [HN.out]; exact hBk, hB⟩
    · obtain rfl : k = eliEnd q n := by omega
      have ha1 : ¬ (a1 : Int) ≤ (c1 : Int) := by have := mt HI2.2 hlt; omega
      clear HI2 hlt
      go_wp2
      go_ret
      exact ⟨Ab, cb, rfl, hcb, hcb2, hBk, hB⟩

set_option maxHeartbeats 2000000 in
theorem eliasErr_any (q n d : Int) (w : World) (h : rangeOk q n d = false) :
    Calls Try.prog 38 #[.int .i64 q, .int .i64 n, .int .i64 d] w fun e w' => e = .returned (.tuple #[.slice none 0 0, .int .i64 6]) ∧ w = w' := by
  have H := hid h
  clear h
  go_enter Try.func38, Try.ntmps38
  go_wp2_with fail
  refine (out_any q n d w).mono ?_
  rintro e w1 ⟨rfl, rfl⟩
  rw [H.out]
  go_wp2
  go_ret2
  exact ⟨rfl, rfl⟩

theorem dl_eli {q n d k : Nat} (hq : q ≤ 256) (hn : n ≤ 64) : dl (eliBest q n d k) ≤ 65 :=
  Nat.le_trans (dl_mono (eliBest_le q n d k)) (dl_power (by omega) (by omega))

set_option maxHeartbeats 4000000 in
theorem boundsElias_law {q n d : Int} {w : World} (_h1 : (Lit.int .i64 q).wf = true) (_h2 : (Lit.int .i64 n).wf = true) (_h3 : (Lit.int .i64 d).wf = true) :
    Calls Try.prog 9 #[.int .i64 q, .int .i64 n, .int .i64 d] w fun e w' => e = .returned (.bool true) ∧ Below w.heap.size w w' := by
  clear _h1 _h2 _h3
  cases hv : rangeOk q n d
  · have HV := hid hv
    clear hv
    go_enter Try.func9, Try.ntmps9
    go_wp2_with fail
    refine (eliasErr_any q n d w HV.out).mono ?_
    rintro e w1 ⟨rfl, rfl⟩
    go_wp2_with fail
    refine (range_any q n d w).mono ?_
    rintro e w1 ⟨rfl, rfl⟩
    rw [HV.out]
    go_wp2
    go_ret
    exact ⟨rfl, Below.refl _ _⟩
  · have HV := hid hv
    obtain ⟨q, n, d, rfl, rfl, rfl, h1, h2, h3, h4, h5, h6⟩ := range_parts hv
    have hdl := dl_eli (q := q) (n := n) (d := d) (k := eliEnd q n) h2 h4
    clear hv
    go_enter Try.func9, Try.ntmps9
    go_wp2_with fail
    refine (eliasOk_any q n d w HV.out h1 h2 h3 h4 h5 h6).mono ?_
    rintro e w1 ⟨A, c, rfl, a1, a2, a3, a4⟩
    go_wp2_with fail
    refine (range_any q n d w1).mono ?_
    rintro e w2 ⟨rfl, rfl⟩
    rw [HV.out]
    go_wp2_with fail
    refine (refElias_any q n d w1 h1 h2 h4 h6).mono ?_
    rintro e w2 ⟨B, cb, rfl, b1, b2, b3, b4⟩
    have a5 := a3.on b4
    have hB2 := onS a4 b4
    clear a3 a4 b4
    go_wp2_with fail
    refine (is_any A B c cb _ 0 w2 a5 b3 (by omega)).mono ?_
    rintro e w3 ⟨rfl, hb3⟩
    have hB3 := onS hB2 hb3
    clear a5 b3 hB2 hb3
    go_wp2
    go_ret
    exact ⟨rfl, hB3⟩
end Go.Proofs.Ytgininddoalenaa
