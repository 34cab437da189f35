/- channel.pattern. -/
import Derived.Test.YtlfmnaepcndhiaaPolyC
namespace Go.Proofs.Ytlfmnaepcndhiaa
open Go.RowKit

/-- The probability of one error word of weight w. -/
def patR (q n v i : Nat) : Rat := if i < v then 0 else rv (decide ((i - v) % 2 = 1)) (chs (n - v) (i - v)) ((q - 1) ^ v)
theorem dl_qpow {q n : Nat} (hq : q < 65536) (hn : n ≤ 128) : dl (q ^ n) ≤ 65 := by
  have key : ∀ L, L = 64 → q ^ n < 4294967296 ^ (L + 1) := by
    intro L hL
    have h1 : q ^ n ≤ 65536 ^ n := Nat.pow_le_pow_left (by omega) n
    have h2 : (65536 : Nat) ^ n ≤ 65536 ^ (2 * L) := Nat.pow_le_pow_right (by omega) (by omega)
    have h3 : (65536 : Nat) ^ (2 * L) = 4294967296 ^ L := by rw [Nat.pow_mul]
    have h4 : (4294967296 : Nat) ^ L < 4294967296 ^ (L + 1) := Nat.pow_lt_pow_right (by omega) (by omega)
    omega
  exact dl_le (key 64 rfl)

set_option maxRecDepth 100000 in
set_option maxHeartbeats 8000000 in
theorem chPattern_any (q n v : Nat) (w : World) (hq : 2 ≤ q) (hq2 : q ≤ 256) (hn : n ≤ 64) (hv : v ≤ n) :
    Calls Try.prog 35 #[.int .i64 (q : Nat), .int .i64 (n : Nat), .int .i64 (v : Nat)] w (PolyPost (n + 1) (patR q n v) w) := by
  have hq1 : ((q : Int) - 1) = ((q - 1 : Nat) : Int) := by omega
  have hn1 : ((n : Int) + 1) = ((n + 1 : Nat) : Int) := by omega
  have hnv : ((n : Int) - (v : Int)) = ((n - v : Nat) : Int) := by omega
  have hd := dl_qpow (q := q - 1) (n := v) (by omega) (by omega)
  have hq1d : dl (q - 1) ≤ 1 := dl_le (by omega)
  have hl := nlen_le (x := q - 1) (k := 16) (by omega)
  have hm : (nlen (q - 1) - 1) * v ≤ 15 * 128 := Nat.mul_le_mul (by omega) (by omega)
  have hv0 : (0 : Int) ≤ (v : Int) := by omega
  have hn0 : (0 : Int) ≤ (n : Int) := by omega
  have hq0 : (2 : Int) ≤ (q : Int) := by omega
  have hq3 : (q : Int) ≤ 256 := by omega
  obtain ⟨M, hM⟩ : ∃ M, M = n + 1 := ⟨_, rfl⟩
  rw [← hM] at hn1 ⊢
  have hMn : M = n + 1 := hM
  have hM1 : n + 1 ≤ M := by omega
  have hM2 : M ≤ n + 1 := by omega
  have HM := hid hM
  clear hM hMn
  obtain ⟨S, hSe⟩ : ∃ S, S = patR q n v := ⟨_, rfl⟩
  rw [← hSe]
  have HSE := hid hSe
  clear hSe
  obtain ⟨d, hde⟩ : ∃ d, d = (q - 1) ^ v := ⟨_, rfl⟩
  rw [← hde] at hd
  have HDE := hid hde
  clear hde
  have hmk := fun W => run_makeRat M (by omega) W
  go_enter Try.func35, Try.ntmps35
  go_wp2_with fail
  refine (natOf_any (q - 1) w (by omega)).mono ?_
  rintro e w1 ⟨A, c, rfl, h1, h2, h3, h4⟩
  go_wp2_with fail
  refine (natPow_any A c (q - 1) v w1 h3 h1 h2 (by omega) (by omega) (.inr (by omega)) (by rw [← HDE.out]; omega)).mono ?_
  rintro e w2 ⟨Bd, cd, rfl, d1, d2, d3, d4⟩
  rw [← HDE.out] at d1 d3 ⊢
  have hB := onS h4 d4
  clear d4 h1 h2 h3 h4 hq1d hl hm
  have kb := below_one w2 (.cells (madeCells #[.bool false, .slice none 0 0, .slice none 0 0] (M * 3)) 32)
  have row := rowOk_made w2 M S
  have hgB := hB.size
  replace d3 := d3.on kb
  replace hB := onS hB kb
  clear kb
  go_wp2
  obtain ⟨w3, hw1⟩ : ∃ W, W = w2.alloc (.cells (madeCells #[.bool false, .slice none 0 0, .slice none 0 0] (M * 3)) 32) := ⟨_, rfl⟩
  obtain ⟨g, hg⟩ : ∃ g, g = w2.heap.size := ⟨_, rfl⟩
  rw [← hw1, ← hg]
  rw [← hw1] at hB row d3
  rw [← hg] at row hgB
  clear hw1 hg hmk
  go_loopg [27] v (fun gg iv wx => ∃ j : Nat, iv = .int .i64 (j : Nat) ∧ j ≤ v ∧ v ≤ j + gg ∧ RowOk wx g M j S ∧ NatOk wx wx.heap.size Bd d ∧ Below w.heap.size w wx)
  case atStart => exact ⟨0, rfl, by omega, by omega, row, d3, hB⟩
  case round =>
    clear row hB d3
    obtain ⟨j, rfl, hj, hjg, row, d3, hB⟩ := hrel
    have hj0 : (0 : Int) ≤ (j : Int) := by omega
    by_cases hlt : j < v
    · have hlt' : (j : Int) < (v : Int) := by omega
      have hltM : (j : Int) < (M : Int) := by omega
      obtain ⟨w0, hw0⟩ : ∃ W, W = wr := ⟨_, rfl⟩
      rw [← hw0] at row hB d3 ⊢
      clear hw0
      go_wp2_with fail
      refine (chZero_any _).mono ?_
      rintro e w1 ⟨Ap, cp, Bp, dp, rfl, mp1, mp2, mp3, mp4, mp5, mp6, kb⟩
      replace row := row.on kb
      replace hB := onS hB kb
      replace d3 := d3.on kb
      clear kb
      obtain ⟨q0, hq0⟩ : ∃ q : Rat, q = (0 : Rat) := ⟨_, rfl⟩
      rw [← hq0] at mp1 mp2 mp3 mp5 ⊢
      replace hq0 : q0 = 0 := hq0.trans (by rfl)
      have HQ0 := hid hq0
      have HSZq0 : rsz q0 1 := by rw [hq0]; exact rsz_zero
      clear hq0
      obtain ⟨o0, o1, o2, y0, y1, y2⟩ := row.old (j) (by omega)
      have z0 := row.froz (j * 3)
      have z1 := row.froz (j * 3 + 1)
      have z2 := row.froz (j * 3 + 2)
      have hsz := hB.size
      go_upto_region 7 with fail
      generalize hw3 : World.setCell _ _ _ = w2
      have hst : RowPut w1 g M (j) (j) (S) q0 w2 := by rw [← hw3]; exact rowPut row (by omega) (by omega) mp1 mp2 mp3 mp4 mp5 mp6
      clear hw3 mp1 mp2 mp3 mp4 mp5 mp6
      replace row := hst.row
      replace hB := hst.below hB hgB hsz
      replace d3 := hst.nat _ _ _ d3
      rw [← hst.size] at d3
      clear hst
      rw [show max j (j + 1) = j + 1 by omega] at row
      clear y0 y1 y2 z0 z1 z2 hsz
      replace row := row.whole (show q0 = S j by rw [HSE.out, HQ0.out]; simp [patR, hlt])
      clear HSZq0 HQ0
      go_wp2
      go_roundg (gk - 1)
      case measure => omega
      case rel => exact ⟨j + 1, by go_num, by omega, by omega, row, d3, hB⟩
    · obtain rfl : j = v := by omega
      have hlt' : ¬ (j : Int) < (j : Int) := by omega
      go_wp2
      obtain ⟨w0, hw0⟩ : ∃ W, W = wr := ⟨_, rfl⟩
      rw [← hw0] at row hB d3 ⊢
      clear hw0 hlt hlt'
      obtain ⟨gK, rfl⟩ : ∃ gK : Nat, gK = gk := ⟨_, rfl⟩
      go_loopg [11] M (fun gg iv wx => ∃ i : Nat, iv = .int .i64 (i : Nat) ∧ j + i ≤ M ∧ M ≤ i + gg ∧ RowOk wx g M (j + i) S ∧ NatOk wx wx.heap.size Bd d ∧ Below w.heap.size w wx)
      case atStart => exact ⟨0, rfl, by omega, by omega, row, d3, hB⟩
      case round =>
        clear row hB d3
        obtain ⟨i, rfl, hi, hig, row, d3, hB⟩ := hrel
        have hi0 : (0 : Int) ≤ (i : Int) := by omega
        have hij : (j : Int) + (i : Int) = ((j + i : Nat) : Int) := by omega
        by_cases hlt : j + i < M
        · have hle : ((j + i : Nat) : Int) ≤ (n : Int) := by omega
          have hltM : ((j + i : Nat) : Int) < (M : Int) := by omega
          have hji0 : (0 : Int) ≤ ((j + i : Nat) : Int) := by omega
          have hdc := dl_chs (n - j) i (by omega)
          have hval : S (j + i) = rv ((i : Int) % 2 == 1) (chs (n - j) i) d := by rw [HSE.out, HDE.out]; simp only [patR]; rw [if_neg (by omega), show j + i - j = i by omega]; congr 1; rw [Bool.eq_iff_iff]; simp; omega
          obtain ⟨P, hP⟩ : ∃ P, P = j + i := ⟨_, rfl⟩
          rw [← hP] at hij hle hltM hji0 hval row hlt hi
          obtain ⟨w1, hw0⟩ : ∃ W, W = wr := ⟨_, rfl⟩
          rw [← hw0] at row hB d3 ⊢
          have HP := hid hP
          have HV := hid hval
          clear hw0 hP hval
          go_wp2_with fail
          refine (binomial_any (n - j) i _ (by omega) (by have := HP.out; omega)).mono ?_
          rintro e w2 ⟨Ac, cc, rfl, b1, b2, b3, kb⟩
          replace row := row.on kb
          replace hB := onS hB kb
          replace d3 := d3.on kb
          clear kb
          obtain ⟨ch, hch⟩ : ∃ x, x = chs (n - j) i := ⟨_, rfl⟩
          rw [← hch] at b1 b3 hdc ⊢
          have HCH := hid hch
          clear hch
          have hraw : RatRaw _ _ (.agg #[.bool ((i : Int) % 2 == 1), .slice Ac (dl ch) cc, .slice Bd (dl d) cd]) (S P) 4096 := ⟨_, Ac, _, cc, Bd, _, cd, ch, d, rfl, b3.raw, d3.raw, b1, b2, d1, d2, by omega, by omega, by rw [HV.out, HCH.out]⟩
          go_wp2_with fail
          refine (ratTrim_any _ (S P) 4096 _ hraw (by omega)).mono ?_
          rintro e w3 ⟨Ap, cp, Bp, dp, rfl, mp1, mp2, mp3, mp4, mp5, mp6, kb⟩
          replace row := row.on kb
          replace hB := onS hB kb
          replace d3 := d3.on kb
          replace b3 := b3.on kb
          replace hraw := hraw.on kb
          clear kb
          clear hraw b1 b2 b3 HCH HV hdc
          obtain ⟨q1, hq1'⟩ : ∃ z, z = S P := ⟨_, rfl⟩
          rw [← hq1'] at mp1 mp2 mp3 mp5 ⊢
          have HQ1 := hid hq1'
          clear hq1'
          obtain ⟨o0, o1, o2, y0, y1, y2⟩ := row.old (P) (by omega)
          have z0 := row.froz (P * 3)
          have z1 := row.froz (P * 3 + 1)
          have z2 := row.froz (P * 3 + 2)
          have hsz := hB.size
          go_upto_region 10 with fail
          generalize hw3 : World.setCell _ _ _ = w4
          have hst : RowPut w3 g M (P) (P) (S) q1 w4 := by rw [← hw3]; exact rowPut row (by omega) (by omega) mp1 mp2 mp3 mp4 mp5 mp6
          clear hw3 mp1 mp2 mp3 mp4 mp5 mp6
          replace row := hst.row
          replace hB := hst.below hB hgB hsz
          replace d3 := hst.nat _ _ _ d3
          rw [← hst.size] at d3
          clear hst
          rw [show max P (P + 1) = P + 1 by omega] at row
          replace row := row.whole HQ1.out
          rw [show P + 1 = j + (i + 1) by have := HP.out; omega] at row
          clear y0 y1 y2 z0 z1 z2 hsz HQ1
          go_wp2
          go_roundg (gk - 1)
          case measure => omega
          case rel => exact ⟨i + 1, by go_num, by have := HP.out; omega, by omega, row, d3, hB⟩
        · obtain ⟨P, hP⟩ : ∃ P, P = j + i := ⟨_, rfl⟩
          rw [← hP] at hij row hi hlt
          clear hP
          obtain rfl : P = M := by omega
          have hle : ¬ (P : Int) ≤ (n : Int) := by omega
          have hl := row.list
          go_wp2
          go_ret
          exact ⟨_, _, rfl, Nat.le_refl _, by unfold maxLen; omega, hl, hB⟩
end Go.Proofs.Ytlfmnaepcndhiaa
