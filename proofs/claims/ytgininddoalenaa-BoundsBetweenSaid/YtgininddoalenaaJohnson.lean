/- The law BoundsJohnson. -/
import Derived.Test.YtgininddoalenaaFormulasLaw
import Derived.Deep.DeepCutAuto
namespace Go.Proofs.Ytgininddoalenaa
open Go.RowKit

/-- The bound U(n, w) for e. -/
def conN (e : Nat) : Nat → Nat → Nat
  | 0, _ => 1
  | n + 1, w => if w < e ∨ n + 1 < w + e then 1 else (n + 1) * conN e n (w - 1) / w
theorem conN_small {e n w : Nat} (h : w < e ∨ n < w + e) : conN e n w = 1 := by
  cases n with
  | zero => rfl
  | succ n => simp only [conN]; rw [if_pos h]
theorem conN_step {e n w : Nat} (h : ¬ (w < e ∨ n + 1 < w + e)) : conN e (n + 1) w = (n + 1) * conN e n (w - 1) / w := by
  simp only [conN]; rw [if_neg h]
theorem conN_le (e n w : Nat) (hn : n ≤ 64) : conN e n w ≤ 64 ^ n := by
  induction n generalizing w with
  | zero => simp [conN]
  | succ n ih =>
    simp only [conN]
    split
    · exact Nat.pow_pos (by omega)
    · have h1 := ih (w - 1) (by omega)
      have h2 : (n + 1) * conN e n (w - 1) ≤ 64 * 64 ^ n := Nat.mul_le_mul hn h1
      have h3 := Nat.div_le_self ((n + 1) * conN e n (w - 1)) w
      rw [Nat.pow_succ]
      omega
theorem dl_con {e n w : Nat} (hn : n ≤ 64) : dl (conN e n w) ≤ 65 := Nat.le_trans (dl_mono (conN_le e n w hn)) (dl_power (by omega) (by omega))

set_option maxRecDepth 100000 in
set_option maxHeartbeats 4000000 in
theorem constant_any (e : Nat) (he : 1 ≤ e) (he2 : e ≤ 64) : ∀ (n wt : Nat) (w : World), n ≤ 64 → wt ≤ 64 →
    Calls Try.prog 83 #[.int .i64 (n : Nat), .int .i64 (wt : Nat), .int .i64 (e : Nat)] w (NatPost (conN e n wt) w) := by
  intro n
  induction n with
  | zero =>
    intro wt w hn hw
    have d1 : Hid (dl (conN e 0 wt) = 1) := dl_small (by show 0 < 1; omega) (by show 1 < _; omega)
    have hone := natOk_one (w := w) 77 (x := 1) (by omega) (by omega)
    have h2 : ((0 : Nat) : Int) - (wt : Int) < (e : Int) := by omega
    have h3 : (0 : Int) - (wt : Int) < (e : Int) := by omega
    have h4 : -(wt : Int) < (e : Int) := by omega
    by_cases h1 : wt < e
    · have h1' : (wt : Int) < (e : Int) := by omega
      go_enter Try.func83, Try.ntmps83
      go_wp2
      go_ret
      exact ⟨_, 1, by rw [d1.out]; rfl, by rw [d1.out]; omega, by unfold maxLen; omega, hone, below_one _ _⟩
    · have h1' : ¬ (wt : Int) < (e : Int) := by omega
      go_enter Try.func83, Try.ntmps83
      go_wp2
      go_ret
      exact ⟨_, 1, by rw [d1.out]; rfl, by rw [d1.out]; omega, by unfold maxLen; omega, hone, below_one _ _⟩
  | succ n ih =>
    intro wt w hn hw
    have hone := natOk_one (w := w) 77 (x := 1) (by omega) (by omega)
    by_cases hs : wt < e ∨ n + 1 < wt + e
    · have d1 : Hid (conN e (n + 1) wt = 1) := conN_small hs
      have d2 : Hid (dl 1 = 1) := dl_small (by omega) (by omega)
      rw [d1.out]
      by_cases h1 : wt < e
      · have h1' : (wt : Int) < (e : Int) := by omega
        clear hs
        go_enter Try.func83, Try.ntmps83
        go_wp2
        go_ret
        exact ⟨_, 1, by rw [d2.out]; rfl, by rw [d2.out]; omega, by unfold maxLen; omega, hone, below_one _ _⟩
      · have h1' : ¬ (wt : Int) < (e : Int) := by omega
        have h2 : (n : Int) + 1 - (wt : Int) < (e : Int) := by omega
        clear hs
        go_enter Try.func83, Try.ntmps83
        go_wp2
        go_ret
        exact ⟨_, 1, by rw [d2.out]; rfl, by rw [d2.out]; omega, by unfold maxLen; omega, hone, below_one _ _⟩
    · have HS := hid (conN_step (e := e) (n := n) (w := wt) hs)
      have h1' : ¬ (wt : Int) < (e : Int) := by omega
      have h2 : ¬ (n : Int) + 1 - (wt : Int) < (e : Int) := by omega
      have E1 := hid (show ((wt : Int) - 1) = ((wt - 1 : Nat) : Int) by omega)
      have E2 := hid (show ((n : Int) + 1) = ((n + 1 : Nat) : Int) by omega)
      have E3 := hid (show ((n : Int) + 1 - 1) = (n : Int) by omega)
      have hdn : dl (n + 1) ≤ 1 := dl_le (by omega)
      have hdw : dl wt ≤ 1 := dl_le (by omega)
      have hdc := dl_con (e := e) (n := n) (w := wt - 1) (by omega)
      have hdm := dl_mul_le hdn hdc
      have hw0 : 0 < wt := by omega
      have IH := hid ih
      rw [HS.out]
      clear hs hone ih
      go_enter Try.func83, Try.ntmps83
      go_wp2_with fail
      rw [E2.out]
      refine (whole_any (n + 1) w (by omega)).mono ?_
      rintro e' w1 ⟨A, c, rfl, a1, a2, a3, a4⟩
      go_wp2_with fail
      rw [E1.out]
      refine (IH.out (wt - 1) w1 (by omega) (by omega)).mono ?_
      rintro e' w2 ⟨A2, c2, rfl, b1, b2, b3, b4⟩
      have a5 := a3.on b4
      have hB2 := onS a4 b4
      clear a3 a4 b4
      go_wp2_with fail
      refine (mul_two 39 a5 b3 a1 b1 a2 b2 (by omega) (by omega) (by omega)).mono ?_
      rintro e' w3 ⟨A3, c3, rfl, s1, s2, s3, s4⟩
      have hB3 := onS hB2 (onS (below_one w2 _) s4)
      clear a5 b3 hB2 s4
      go_wp2_with fail
      refine (whole_any wt w3 (by omega)).mono ?_
      rintro e' w4 ⟨A4, c4, rfl, p1, p2, p3, p4⟩
      have s5 := s3.on p4
      have hB4 := onS hB3 p4
      clear s3 hB3 p4
      go_wp2_with fail
      refine (over_any A3 A4 c3 c4 ((n + 1) * conN e n (wt - 1)) wt w4 s5 p3 s1 s2 p1 p2 (by omega) (by omega) hw0).mono ?_
      rintro e' w5 ⟨A5, c5, rfl, t1, t2, t3, t4⟩
      have hB5 := onS hB4 t4
      clear s5 p3 hB4 t4
      go_wp2
      go_ret
      exact ⟨A5, c5, rfl, t1, t2, t3, hB5⟩

set_option maxRecDepth 100000 in
set_option maxHeartbeats 4000000 in
theorem equal_any (e : Nat) (he : 1 ≤ e) (he2 : e ≤ 64) : ∀ (n wt : Nat) (w : World), n ≤ 64 → wt ≤ 64 →
    Calls Try.prog 87 #[.int .i64 (n : Nat), .int .i64 (e : Nat), .int .i64 (wt : Nat)] w (NatPost (conN e n wt) w) := by
  intro n
  induction n with
  | zero =>
    intro wt w hn hw
    have d1 : Hid (dl (conN e 0 wt) = 1) := dl_small (by show 0 < 1; omega) (by show 1 < _; omega)
    have hone := natOk_one (w := w) 77 (x := 1) (by omega) (by omega)
    have h2 : ((0 : Nat) : Int) - (wt : Int) < (e : Int) := by omega
    have h3 : (0 : Int) - (wt : Int) < (e : Int) := by omega
    have h4 : -(wt : Int) < (e : Int) := by omega
    by_cases h1 : wt < e
    · have h1' : (wt : Int) < (e : Int) := by omega
      go_enter Try.func87, Try.ntmps87
      go_wp2
      go_ret
      exact ⟨_, 1, by rw [d1.out]; rfl, by rw [d1.out]; omega, by unfold maxLen; omega, hone, below_one _ _⟩
    · have h1' : ¬ (wt : Int) < (e : Int) := by omega
      go_enter Try.func87, Try.ntmps87
      go_wp2
      go_ret
      exact ⟨_, 1, by rw [d1.out]; rfl, by rw [d1.out]; omega, by unfold maxLen; omega, hone, below_one _ _⟩
  | succ n ih =>
    intro wt w hn hw
    have hone := natOk_one (w := w) 77 (x := 1) (by omega) (by omega)
    by_cases hs : wt < e ∨ n + 1 < wt + e
    · have d1 : Hid (conN e (n + 1) wt = 1) := conN_small hs
      have d2 : Hid (dl 1 = 1) := dl_small (by omega) (by omega)
      rw [d1.out]
      by_cases h1 : wt < e
      · have h1' : (wt : Int) < (e : Int) := by omega
        clear hs
        go_enter Try.func87, Try.ntmps87
        go_wp2
        go_ret
        exact ⟨_, 1, by rw [d2.out]; rfl, by rw [d2.out]; omega, by unfold maxLen; omega, hone, below_one _ _⟩
      · have h1' : ¬ (wt : Int) < (e : Int) := by omega
        have h2 : (n : Int) + 1 - (wt : Int) < (e : Int) := by omega
        clear hs
        go_enter Try.func87, Try.ntmps87
        go_wp2
        go_ret
        exact ⟨_, 1, by rw [d2.out]; rfl, by rw [d2.out]; omega, by unfold maxLen; omega, hone, below_one _ _⟩
    · have HS := hid (conN_step (e := e) (n := n) (w := wt) hs)
      have h1' : ¬ (wt : Int) < (e : Int) := by omega
      have h2 : ¬ (n : Int) + 1 - (wt : Int) < (e : Int) := by omega
      have E1 := hid (show ((wt : Int) - 1) = ((wt - 1 : Nat) : Int) by omega)
      have E2 := hid (show ((n : Int) + 1) = ((n + 1 : Nat) : Int) by omega)
      have hdn : dl (n + 1) ≤ 1 := dl_le (by omega)
      have hdw : dl wt ≤ 1 := dl_le (by omega)
      have hdc := dl_con (e := e) (n := n) (w := wt - 1) (by omega)
      have hdm := dl_mul_le hdn hdc
      have hw0 : 0 < wt := by omega
      have IH := hid ih
      rw [HS.out]
      clear hs hone ih
      go_enter Try.func87, Try.ntmps87
      go_wp2_with fail
      rw [E2.out]
      refine (whole34_any (n + 1) w (by omega)).mono ?_
      rintro e' w1 ⟨A, c, rfl, a1, a2, a3, a4⟩
      go_wp2_with fail
      rw [E1.out]
      refine (IH.out (wt - 1) w1 (by omega) (by omega)).mono ?_
      rintro e' w2 ⟨A2, c2, rfl, b1, b2, b3, b4⟩
      have a5 := a3.on b4
      have hB2 := onS a4 b4
      clear a3 a4 b4
      go_wp2_with fail
      refine (refMul_nat A A2 c c2 _ _ w2 a5 b3 (by omega) (by omega)).mono ?_
      rintro e' w3 ⟨A3, c3, rfl, s1, s2, s3, s4⟩
      have hB3 := onS hB2 s4
      clear a5 b3 hB2 s4
      go_wp2_with fail
      refine (whole34_any wt w3 (by omega)).mono ?_
      rintro e' w4 ⟨A4, c4, rfl, p1, p2, p3, p4⟩
      have s5 := s3.on p4
      have hB4 := onS hB3 p4
      clear s3 hB3 p4
      go_wp2_with fail
      refine (floor_any A3 A4 c3 c4 ((n + 1) * conN e n (wt - 1)) wt w4 s5 p3 s1 s2 p1 p2 (by omega) (by omega) hw0).mono ?_
      rintro e' w5 ⟨A5, c5, rfl, t1, t2, t3, t4⟩
      have hB5 := onS hB4 t4
      clear s5 p3 hB4 t4
      go_wp2
      go_ret
      exact ⟨A5, c5, rfl, t1, t2, t3, hB5⟩

/-- The bound of Johnson for an odd distance. -/
def johX (n d : Nat) : Nat := chs n (d / 2 + 1) - chs d (d / 2) * conN (d / 2 + 1) n d
def johN (n d : Nat) : Nat := n / (d / 2 + 1) * 2 ^ n / (n / (d / 2 + 1) * vol 2 n (d / 2 + 1) + johX n d)
/-- .. and for any. -/
def johA (n d : Nat) : Nat := if d % 2 = 0 then johN (n - 1) (d - 1) else johN n d

/-- What the numbers are bounded by. -/
theorem joh_bounds {n d t m : Nat} (hn : n ≤ 64) (hd : d ≤ n) (_hd1 : 1 ≤ d) (ht : t = d / 2) (hm : m = n / (t + 1)) (hodd : d % 2 = 1) :
    t + 1 ≤ n ∧ t ≤ d ∧ 1 ≤ m ∧ m ≤ 64 ∧ dl m ≤ 1 ∧ dl (m * vol 2 n (t + 1)) ≤ 196 ∧ dl (chs n (t + 1)) ≤ 200 ∧ dl (chs d t * conN (t + 1) n d) ≤ 265 ∧ dl (m * 2 ^ n) ≤ 66 ∧ dl (chs d t) ≤ 200 := by
  have h1 : t + 1 ≤ n := by omega
  have h2 : 1 ≤ m := by rw [hm]; exact (Nat.le_div_iff_mul_le (by omega)).2 (by omega)
  have h3 : m ≤ 64 := by rw [hm]; exact Nat.le_trans (Nat.div_le_self _ _) hn
  have h4 : dl m ≤ 1 := dl_le (by omega)
  have h5 := dl_mul_le h4 (dl_vol (q := 2) (n := n) (k := t + 1) (by omega) (by omega) (by omega))
  have h6 := dl_chs n (t + 1) (by omega)
  have h7 := dl_chs d t (by omega)
  have h8 := dl_mul_le h7 (dl_con (e := t + 1) (n := n) (w := d) hn)
  have h9 := dl_mul_le h4 (dl_power (q := 2) (n := n) (by omega) (by omega))
  exact ⟨h1, by omega, h2, h3, h4, by omega, by omega, by omega, by omega, by omega⟩
theorem dl_joh {n d : Nat} (hn : n ≤ 64) (hd : d ≤ n) (hd1 : 1 ≤ d) (hodd : d % 2 = 1) : dl (johN n d) ≤ 66 := by
  obtain ⟨_, _, _, _, _, _, _, _, h9, _⟩ := joh_bounds hn hd hd1 rfl rfl hodd
  exact Nat.le_trans (dl_mono (Nat.div_le_self _ _)) h9
theorem dl_johA {n d : Nat} (hn : n ≤ 64) (hd : d ≤ n) (hd1 : 1 ≤ d) : dl (johA n d) ≤ 66 := by
  unfold johA
  split
  · exact dl_joh (by omega) (by omega) (by omega) (by omega)
  · exact dl_joh hn hd hd1 (by omega)

set_option maxRecDepth 100000 in
set_option maxHeartbeats 8000000 in
theorem johnsonOk_any (n d : Nat) (w : World) (h : rangeOk 2 (n : Int) (d : Int) = true) (hn : n ≤ 64) (hd1 : 1 ≤ d) (hd : d ≤ n) :
    Calls Try.prog 50 #[.int .i64 (n : Nat), .int .i64 (d : Nat)] w (SubPost (johA n d) w) := by
  have H := hid h
  have EA : Hid (∀ n' d' : Nat, n' = (if d % 2 = 0 then n - 1 else n) → d' = (if d % 2 = 0 then d - 1 else d) → johA n d = johN n' d') := fun n' d' h1 h2 => by
    unfold johA
    split
    · rename_i e; rw [if_pos e] at h1 h2; rw [h1, h2]
    · rename_i e; rw [if_neg e] at h1 h2; rw [h1, h2]
  clear h
  go_enter Try.func50, Try.ntmps50
  go_wp2_with fail
  refine (out_any 2 n d w).mono ?_
  rintro e w1 ⟨rfl, rfl⟩
  rw [H.out]
  go_upto_if 16 with fail
  go_cut [0, 1] (fun v0 v1 wx => ∃ n' d' : Nat, v0 = .int .i64 (n' : Nat) ∧ v1 = .int .i64 (d' : Nat) ∧ n' ≤ 64 ∧ d' ≤ n' ∧ 1 ≤ d' ∧ d' % 2 = 1 ∧ Hid (johA n d = johN n' d') ∧ w = wx)
  case first =>
    by_cases hev : d % 2 = 0
    · have hz : ((d : Int) % 2 == 0) = true := by simp; omega
      have he1 : ((n : Int) - 1) = ((n - 1 : Nat) : Int) := by omega
      have he2 : ((d : Int) - 1) = ((d - 1 : Nat) : Int) := by omega
      have HX := hid (EA.out (n - 1) (d - 1) (by rw [if_pos hev]) (by rw [if_pos hev]))
      have hc1 : n - 1 ≤ 64 ∧ d - 1 ≤ n - 1 ∧ 1 ≤ d - 1 ∧ (d - 1) % 2 = 1 := by omega
      have HC := hid hc1
      clear hc1 hev
      go_wp2
      go_meet
      exact ⟨n - 1, d - 1, rfl, rfl, HC.out.1, HC.out.2.1, HC.out.2.2.1, HC.out.2.2.2, HX, rfl⟩
    · have hz : ((d : Int) % 2 == 0) = false := by simp; omega
      have HX := hid (EA.out n d (by rw [if_neg hev]) (by rw [if_neg hev]))
      have hc1 : d % 2 = 1 := by omega
      have HC := hid hc1
      clear hc1 hev
      go_wp2
      go_meet
      exact ⟨n, d, rfl, rfl, hn, hd, hd1, HC.out, HX, rfl⟩
  case rest =>
    obtain ⟨n', d', rfl, rfl, hn', hd', hd1', hodd, HX, rfl⟩ := hcut
    clear EA H hn hd1 hd
    obtain ⟨t, ht⟩ : ∃ t, t = d' / 2 := ⟨_, rfl⟩
    obtain ⟨m, hm⟩ : ∃ m, m = n' / (t + 1) := ⟨_, rfl⟩
    obtain ⟨b1, b2, b3, b4, b5, b6, b7, b8, b9, b10⟩ := joh_bounds hn' hd' hd1' ht hm hodd
    have E1 : (d' : Int) / 2 = (t : Int) := by omega
    have E2 := hid (show ((t : Int) + 1) = ((t + 1 : Nat) : Int) by omega)
    have E3 : (n' : Int) / ((t : Int) + 1) = (m : Int) := by rw [hm]; rfl
    have hv0 := vol_pos 2 n' t
    have HD : Hid (0 < m * vol 2 n' (t + 1)) := Nat.mul_pos (by omega) hv0
    have HJ : Hid (johN n' d' = m * 2 ^ n' / (m * vol 2 n' (t + 1) + (chs n' (t + 1) - chs d' t * conN (t + 1) n' d'))) := by
      show _ = _; unfold johN johX; rw [← ht, ← hm]
    have hcon := dl_con (e := t + 1) (n := n') (w := d') hn'
    have hvl := dl_vol (q := 2) (n := n') (k := t + 1) (by omega) (by omega) (by omega)
    have hpw := dl_power (q := 2) (n := n') (by omega) (by omega)
    clear ht hm hodd hv0
    go_wp2_with fail
    refine (whole_any m w (by omega)).mono ?_
    rintro e w1 ⟨A, c, rfl, a1, a2, a3, a4⟩
    go_wp2_with fail
    refine (volume_any 2 n' t w1 (by omega) (by omega) hn' (by omega)).mono ?_
    rintro e w2 ⟨A2, c2, rfl, f1, f2, f3, f4⟩
    have a5 := a3.on f4
    have hB2 := onS a4 f4
    clear a3 a4 f4
    go_wp2_with fail
    refine (mul_two 39 a5 f3 a1 f1 a2 f2 (by omega) (by omega) (by omega)).mono ?_
    rintro e w3 ⟨A3, c3, rfl, g1, g2, g3, g4⟩
    have hb3 := onS (below_one w2 _) g4
    have a6 := a5.on hb3
    have hB3 := onS hB2 hb3
    clear a5 f3 hB2 g4 hb3
    go_wp2_with fail
    rw [E2.out]
    refine (choose_any n' (t + 1) w3 (by omega) b1).mono ?_
    rintro e w4 ⟨A4, c4, rfl, k1, k2, k3, k4⟩
    have a7 := a6.on k4
    have g5 := g3.on k4
    have hB4 := onS hB3 k4
    clear a6 g3 hB3 k4
    go_wp2_with fail
    refine (choose_any d' t w4 (by omega) b2).mono ?_
    rintro e w5 ⟨A5, c5, rfl, p1, p2, p3, p4⟩
    have a8 := a7.on p4
    have g6 := g5.on p4
    have k5 := k3.on p4
    have hB5 := onS hB4 p4
    clear a7 g5 k3 hB4 p4
    go_wp2_with fail
    rw [E2.out]
    refine (constant_any (t + 1) (by omega) (by omega) n' d' w5 hn' (by omega)).mono ?_
    rintro e w6 ⟨A6, c6, rfl, r1, r2, r3, r4⟩
    have a9 := a8.on r4
    have g7 := g6.on r4
    have k6 := k5.on r4
    have p5 := p3.on r4
    have hB6 := onS hB5 r4
    clear a8 g6 k5 p3 hB5 r4
    go_wp2_with fail
    refine (mul_two 39 p5 r3 p1 r1 p2 r2 (by omega) (by omega) (by omega)).mono ?_
    rintro e w7 ⟨A7, c7, rfl, s1, s2, s3, s4⟩
    have hb7 := onS (below_one w6 _) s4
    have a10 := a9.on hb7
    have g8 := g7.on hb7
    have k7 := k6.on hb7
    have hB7 := onS hB6 hb7
    clear a9 g7 k6 p5 r3 hB6 s4 hb7
    rcases Nat.lt_or_ge (chs n' (t + 1)) (chs d' t * conN (t + 1) n' d') with hlt | hge
    · have HJ2 : Hid (johN n' d' = m * 2 ^ n' / (m * vol 2 n' (t + 1))) := by
        show _ = _
        rw [HJ.out, Nat.sub_eq_zero_of_le (Nat.le_of_lt hlt), Nat.add_zero]
      have HLT := hid hlt
      clear hlt
      go_wp2_with fail
      refine (natSub_err A4 A7 c4 c7 _ _ w7 k7 s3 k1 k2 s1 s2 HLT.out (by omega)).mono ?_
      rintro e w8 ⟨rfl, hb8⟩
      have a11 := a10.on hb8
      have g9 := g8.on hb8
      have hB8 := onS hB7 hb8
      clear a10 g8 k7 s3 hB7 hb8
      go_wp2_with fail
      refine (power_any 2 n' w8 (by omega) (by omega)).mono ?_
      rintro e w9 ⟨A9, c9, rfl, t1, t2, t3, t4⟩
      have a12 := a11.on t4
      have g10 := g9.on t4
      have hB9 := onS hB8 t4
      clear a11 g9 hB8 t4
      go_wp2_with fail
      refine (mul_two 39 a12 t3 a1 t1 a2 t2 (by omega) (by omega) (by omega)).mono ?_
      rintro e w10 ⟨A10, c10, rfl, u1, u2, u3, u4⟩
      have hb10 := onS (below_one w9 _) u4
      have g11 := g10.on hb10
      have hB10 := onS hB9 hb10
      clear a12 t3 g10 hB9 u4 hb10
      go_wp2_with fail
      refine (over_any A10 A3 c10 c3 _ _ w10 u3 g11 u1 u2 g1 g2 (by omega) (by omega) HD.out).mono ?_
      rintro e w11 ⟨A11, c11, rfl, v1, v2, v3, v4⟩
      have hB11 := onS hB10 v4
      clear g11 u3 hB10 v4
      go_wp2
      go_ret2
      rw [HX.out, HJ2.out]
      exact ⟨A11, c11, rfl, v1, v2, v3, hB11⟩
    · have HGE := hid hge
      have hdx : dl (chs n' (t + 1) - chs d' t * conN (t + 1) n' d') ≤ 200 := Nat.le_trans (dl_mono (Nat.sub_le _ _)) b7
      obtain ⟨x, hx⟩ : ∃ x, x = chs n' (t + 1) - chs d' t * conN (t + 1) n' d' := ⟨_, rfl⟩
      have HSX := hid hx
      rw [← hx] at hdx HJ
      have hds : dl (m * vol 2 n' (t + 1) + x) ≤ 201 := by
        refine dl_le ?_
        have h1 : m * vol 2 n' (t + 1) < 4294967296 ^ 200 := Nat.lt_of_lt_of_le (lt_pow_dl _) (Nat.pow_le_pow_right (by omega) (by omega))
        have h2 : x < 4294967296 ^ 200 := Nat.lt_of_lt_of_le (lt_pow_dl _) (Nat.pow_le_pow_right (by omega) hdx)
        rw [show (201 : Nat) = 200 + 1 from rfl, Nat.pow_succ]
        generalize (4294967296 : Nat) ^ 200 = P at *
        omega
      clear hge hx
      go_wp2_with fail
      refine (natSub_ok A4 A7 c4 c7 _ _ w7 k7 s3 k1 k2 s1 s2 HGE.out (by omega)).mono ?_
      rintro e w8 ⟨A8, c8, rfl, x1, x2, x3, x4⟩
      rw [← HSX.out] at x1 x3 ⊢
      have a11 := a10.on x4
      have g9 := g8.on x4
      have hB8 := onS hB7 x4
      clear a10 g8 k7 s3 hB7 x4
      go_wp2_with fail
      refine (add_two 39 g9 x3 g1 x1 g2 x2 (by omega)).mono ?_
      rintro e w8b ⟨A8b, c8b, rfl, y1, y2, y3, y4⟩
      have hb8 := onS (below_one w8 _) y4
      have a11b := a11.on hb8
      have hB8b := onS hB8 hb8
      clear a11 g9 x3 hB8 y4 hb8
      go_wp2_with fail
      refine (power_any 2 n' w8b (by omega) (by omega)).mono ?_
      rintro e w9 ⟨A9, c9, rfl, t1, t2, t3, t4⟩
      have a12 := a11b.on t4
      have g10 := y3.on t4
      have hB9 := onS hB8b t4
      clear a11b y3 hB8b t4
      go_wp2_with fail
      refine (mul_two 39 a12 t3 a1 t1 a2 t2 (by omega) (by omega) (by omega)).mono ?_
      rintro e w10 ⟨A10, c10, rfl, u1, u2, u3, u4⟩
      have hb10 := onS (below_one w9 _) u4
      have g11 := g10.on hb10
      have hB10 := onS hB9 hb10
      clear a12 t3 g10 hB9 u4 hb10
      go_wp2_with fail
      refine (over_any A10 A8b c10 c8b _ _ w10 u3 g11 u1 u2 y1 y2 (by omega) (by omega) (Nat.lt_of_lt_of_le HD.out (Nat.le_add_right _ _))).mono ?_
      rintro e w11 ⟨A11, c11, rfl, v1, v2, v3, v4⟩
      have hB11 := onS hB10 v4
      clear g11 u3 hB10 v4
      go_wp2
      go_ret2
      rw [HX.out, HJ.out]
      exact ⟨A11, c11, rfl, v1, v2, v3, hB11⟩
end Go.Proofs.Ytgininddoalenaa
