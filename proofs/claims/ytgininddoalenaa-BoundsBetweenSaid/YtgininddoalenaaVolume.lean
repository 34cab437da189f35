/- bounds.Volume and codewrightref34.Volume. -/
import Derived.Test.YtgininddoalenaaNatB
namespace Go.Proofs.Ytgininddoalenaa
open Go.RowKit

/-- The first of two, and the second. -/
def pairN (x y : Nat) (i : Nat) : Nat := if i = 0 then x else y
theorem natTab_two {w : World} {A1 A2 : Option Addr} {c1 c2 x y : Nat} (T : TypeId) (h1 : NatOk w w.heap.size A1 x) (h2 : NatOk w w.heap.size A2 y) (k1 : dl x ≤ c1) (k2 : dl y ≤ c2) (m1 : c1 ≤ maxLen) (m2 : c2 ≤ maxLen) :
    NatTab (w.alloc (Obj.cells #[.slice A1 (dl x) c1, .slice A2 (dl y) c2] T)) (w.alloc (Obj.cells #[.slice A1 (dl x) c1, .slice A2 (dl y) c2] T)).heap.size (some ⟨w.heap.size, 0, none⟩) 2 (pairN x y) := fun v hv => by
  have hb := below_one w (Obj.cells #[.slice A1 (dl x) c1, .slice A2 (dl y) c2] T)
  match v, hv with
  | 0, _ => exact ⟨_, 0, A1, c1, rfl, by simp, World.cell?_alloc_at _ _ _ _ rfl, k1, m1, h1.on hb⟩
  | 1, _ => exact ⟨_, 0, A2, c2, rfl, by simp, World.cell?_alloc_at _ _ _ _ rfl, k2, m2, h2.on hb⟩

theorem add_two {w : World} {A1 A2 : Option Addr} {c1 c2 x y : Nat} (T : TypeId) (h1 : NatOk w w.heap.size A1 x) (h2 : NatOk w w.heap.size A2 y) (k1 : dl x ≤ c1) (k2 : dl y ≤ c2) (m1 : c1 ≤ maxLen) (m2 : c2 ≤ maxLen) (d1 : dl (x + y) ≤ 536870912) :
    Calls Try.prog 86 #[.slice (some ⟨w.heap.size, 0, none⟩) 2 2] (w.alloc (Obj.cells #[.slice A1 (dl x) c1, .slice A2 (dl y) c2] T)) (NatPost (x + y) (w.alloc (Obj.cells #[.slice A1 (dl x) c1, .slice A2 (dl y) c2] T))) := by
  have e : sumN (pairN x y) 2 = x + y := by simp [sumN, pairN]
  have := natAdd_any (some ⟨w.heap.size, 0, none⟩) 2 2 (pairN x y) _ (natTab_two T h1 h2 k1 k2 m1 m2) (by omega) (hid fun k hk => ?_) (hid fun k hk => ?_)
  · rwa [e] at this
  · refine Nat.le_trans (dl_mono ?_) d1
    match k, hk with
    | 0, _ => simp [sumN]
    | 1, _ => simp [sumN, pairN]
    | 2, _ => rw [e]; exact Nat.le_refl _
  · refine Nat.le_trans (dl_mono ?_) d1
    match k, hk with
    | 0, _ => simp [pairN]
    | 1, _ => simp [pairN]
theorem mul_two {w : World} {A1 A2 : Option Addr} {c1 c2 x y : Nat} (T : TypeId) (h1 : NatOk w w.heap.size A1 x) (h2 : NatOk w w.heap.size A2 y) (k1 : dl x ≤ c1) (k2 : dl y ≤ c2) (m1 : c1 ≤ maxLen) (m2 : c2 ≤ maxLen) (d1 : dl x ≤ 536870912) (d2 : dl y ≤ 536870912) (d3 : dl (x * y) ≤ 536870912) :
    Calls Try.prog 79 #[.slice (some ⟨w.heap.size, 0, none⟩) 2 2] (w.alloc (Obj.cells #[.slice A1 (dl x) c1, .slice A2 (dl y) c2] T)) (NatPost (x * y) (w.alloc (Obj.cells #[.slice A1 (dl x) c1, .slice A2 (dl y) c2] T))) := by
  have e : prodN (pairN x y) 2 = x * y := by simp [prodN, pairN]
  have := natMul_any (some ⟨w.heap.size, 0, none⟩) 2 2 (pairN x y) _ (natTab_two T h1 h2 k1 k2 m1 m2) (by omega) (hid fun k hk => ?_) (hid fun k hk => ?_)
  · rwa [e] at this
  · match k, hk with
    | 0, _ => show dl 1 ≤ _; rw [dl_small (by omega) (by omega)]; omega
    | 1, _ => simp [prodN, pairN]; exact d1
    | 2, _ => rw [e]; exact d3
  · match k, hk with
    | 0, _ => exact d1
    | 1, _ => exact d2

theorem dl_power {q n : Nat} (hq : q < 65536) (hn : n ≤ 128) : dl (q ^ n) ≤ 65 := by
  obtain ⟨e, he⟩ : ∃ e, e = 65 := ⟨_, rfl⟩
  rw [← he]
  refine dl_le ?_
  have h1 : q ^ n ≤ (2 ^ 16) ^ n := Nat.pow_le_pow_left (by omega) n
  rw [← Nat.pow_mul] at h1
  have h2 : (2 : Nat) ^ (16 * n) < 2 ^ (32 * e) := Nat.pow_lt_pow_right (by omega) (by omega)
  rw [Nat.pow_mul 2 32] at h2
  exact Nat.lt_of_le_of_lt h1 h2
theorem dl_mul_le {x y a b : Nat} (hx : dl x ≤ a) (hy : dl y ≤ b) : dl (x * y) ≤ a + b := by
  refine dl_le ?_
  have h1 : x < 4294967296 ^ a := Nat.lt_of_lt_of_le (lt_pow_dl x) (Nat.pow_le_pow_right (by omega) hx)
  have h2 : y < 4294967296 ^ b := Nat.lt_of_lt_of_le (lt_pow_dl y) (Nat.pow_le_pow_right (by omega) hy)
  rw [Nat.pow_add]
  exact Nat.mul_lt_mul_of_lt_of_le h1 (by omega) (Nat.pow_pos (by omega))

/-- The number of words in a ball: the first k terms. -/
def vol (q n : Nat) : Nat → Nat
  | 0 => 0
  | k + 1 => vol q n k + chs n k * (q - 1) ^ k
theorem dl_vol {q n k : Nat} (hq : q ≤ 65536) (hn : n ≤ 128) (hk : k ≤ 129) : dl (vol q n k) ≤ 195 := by
  have key : ∀ L, L = 194 → vol q n k ≤ k * 4294967296 ^ L := by
    intro L hL
    induction k with
    | zero => simp [vol]
    | succ k ih =>
      simp only [vol]
      have h1 := ih (by omega)
      have h2 : dl (chs n k * (q - 1) ^ k) ≤ L := by
        have := dl_mul_le (dl_chs n k (by omega)) (dl_power (q := q - 1) (n := k) (by omega) (by omega))
        omega
      have h3 : chs n k * (q - 1) ^ k ≤ 4294967296 ^ L := Nat.le_of_lt (Nat.lt_of_lt_of_le (lt_pow_dl _) (Nat.pow_le_pow_right (by omega) h2))
      rw [Nat.add_mul, Nat.one_mul]
      omega
  obtain ⟨L, hL⟩ : ∃ L, L = 194 := ⟨_, rfl⟩
  have h := key L hL
  rw [show 195 = L + 1 by omega]
  refine dl_le (Nat.lt_of_le_of_lt h ?_)
  rw [Nat.pow_succ, Nat.mul_comm (4294967296 ^ L)]
  exact Nat.mul_lt_mul_of_lt_of_le (by omega) (Nat.le_refl _) (Nat.pow_pos (by omega))

set_option maxHeartbeats 2000000 in
theorem whole_any (n : Nat) (w : World) (hn : n < 9223372036854775808) :
    Calls Try.prog 80 #[.int .i64 (n : Nat)] w (NatPost n w) := by
  go_enter Try.func80, Try.ntmps80
  go_wp2_with fail
  refine (natOf_any n w (by omega)).mono ?_
  rintro e w1 ⟨A, c, rfl, h1, h2, h3, h4⟩
  go_wp2
  go_ret
  exact ⟨A, c, rfl, h1, h2, h3, h4⟩

set_option maxHeartbeats 2000000 in
theorem power_any (q n : Nat) (w : World) (hq : q < 65536) (hn : n ≤ 128) :
    Calls Try.prog 76 #[.int .i64 (q : Nat), .int .i64 (n : Nat)] w (NatPost (q ^ n) w) := by
  have hd := dl_power hq hn
  have hq1 : dl q ≤ 1 := dl_le (by omega)
  have hl := nlen_le (x := q) (k := 16) (by omega)
  have hm : (nlen q - 1) * n ≤ 15 * 128 := Nat.mul_le_mul (by omega) hn
  go_enter Try.func76, Try.ntmps76
  go_wp2_with fail
  refine (whole_any q w (by omega)).mono ?_
  rintro e w1 ⟨A, c, rfl, h1, h2, h3, h4⟩
  go_wp2_with fail
  refine (natPow_any A c q n w1 h3 h1 h2 (by omega) (by omega) (.inr (by omega)) (by omega)).mono ?_
  rintro e w2 ⟨A2, c2, rfl, g1, g2, g3, g4⟩
  have hB := onS h4 g4
  clear g4
  go_wp2
  go_ret
  exact ⟨A2, c2, rfl, g1, g2, g3, hB⟩

set_option maxHeartbeats 2000000 in
theorem choose_any (n k : Nat) (w : World) (hn : n ≤ 4096) (hk : k ≤ n) :
    Calls Try.prog 85 #[.int .i64 (n : Nat), .int .i64 (k : Nat)] w (NatPost (chs n k) w) := by
  go_enter Try.func85, Try.ntmps85
  go_wp2_with fail
  refine (binomial_any n k w hn hk).mono ?_
  rintro e w2 ⟨A2, c2, rfl, g1, g2, g3, g4⟩
  go_wp2
  go_ret
  exact ⟨A2, c2, rfl, g1, g2, g3, g4⟩

set_option maxHeartbeats 2000000 in
theorem refPow34_any (q n : Nat) (w : World) (hq : q < 65536) (hn : n ≤ 128) :
    Calls Try.prog 71 #[.int .i64 (q : Nat), .int .i64 (n : Nat)] w (NatPost (q ^ n) w) := by
  have hd := dl_power hq hn
  have hq1 : dl q ≤ 1 := dl_le (by omega)
  go_enter Try.func71, Try.ntmps71
  go_wp2_with fail
  refine (refOf_any q w (by omega)).mono ?_
  rintro e w1 ⟨A, c, rfl, h1, h2, h3, h4⟩
  go_wp2_with fail
  refine (refPow_any A c q n w1 h3 h1 h2 (by omega) (by omega) (by omega)).mono ?_
  rintro e w2 ⟨A2, c2, rfl, g1, g2, g3, g4⟩
  have hB := onS h4 g4
  clear g4
  go_wp2
  go_ret
  exact ⟨A2, c2, rfl, g1, g2, g3, hB⟩

set_option maxHeartbeats 4000000 in
theorem volume_any (q n r : Nat) (w : World) (hq : 1 ≤ q) (hq2 : q ≤ 256) (hn : n ≤ 64) (hr : r ≤ n) :
    Calls Try.prog 67 #[.int .i64 (q : Nat), .int .i64 (n : Nat), .int .i64 (r : Nat)] w (NatPost (vol q n (r + 1)) w) := by
  have eq1 : ((q : Int) - 1) = ((q - 1 : Nat) : Int) := by omega
  have HQ := hid eq1
  clear eq1
  go_enter Try.func67, Try.ntmps67
  go_wp2
  go_loopg [8, 7] (r + 1) (fun gg iv ov wx => ∃ i : Nat, ∃ A c, iv = .int .i64 (i : Nat) ∧ ov = .slice A (dl (vol q n i)) c ∧ i ≤ r + 1 ∧ r + 1 ≤ i + gg ∧ dl (vol q n i) ≤ c ∧ c ≤ maxLen ∧ NatOk wx wx.heap.size A (vol q n i) ∧ Below w.heap.size w wx)
  case atStart => exact ⟨0, none, 0, rfl, by simp [vol, dl_zero], by omega, by omega, by simp [vol, dl_zero], by unfold maxLen; omega, fun i hi => absurd hi (by simp [vol, dl_zero]), Below.refl _ _⟩
  case round =>
    obtain ⟨i, A, c, rfl, rfl, hi, hig, hc, hcm, hA, hB⟩ := hrel
    by_cases hlt : i ≤ r
    · have hd := dl_vol (q := q) (n := n) (k := i + 1) (by omega) (by omega) (by omega)
      have hdc := dl_chs n i (by omega)
      have hdp := dl_power (q := q - 1) (n := i) (by omega) (by omega)
      have hdm := dl_mul_le hdc hdp
      go_wp2_with fail
      refine (choose_any n i wr (by omega) (by omega)).mono ?_
      rintro e w1 ⟨A1, c1, rfl, f1, f2, f3, f4⟩
      have hA1 := hA.on f4
      have hB1 := onS hB f4
      clear hA hB f4
      go_wp2_with fail
      rw [HQ.out]
      refine (power_any (q - 1) i w1 (by omega) (by omega)).mono ?_
      rintro e w2 ⟨A2, c2, rfl, g1, g2, g3, g4⟩
      have hA2 := hA1.on g4
      have f5 := f3.on g4
      have hB2 := onS hB1 g4
      clear hA1 hB1 g4 f3
      go_wp2_with fail
      refine (mul_two 39 f5 g3 f1 g1 f2 g2 (by omega) (by omega) (by omega)).mono ?_
      rintro e w3 ⟨A3, c3, rfl, k1, k2, k3, k4⟩
      have hb3 := onS (below_one w2 _) k4
      have hA3 := hA2.on hb3
      have hB3 := onS hB2 hb3
      clear hA2 hB2 hb3 k4 f5 g3
      go_wp2_with fail
      refine (add_two 39 hA3 k3 hc k1 hcm k2 (by simp only [vol] at hd; omega)).mono ?_
      rintro e w4 ⟨A4, c4, rfl, m1, m2, m3, m4⟩
      have hB4 := onS hB3 (onS (below_one w3 _) m4)
      clear hA3 hB3 k3 m4
      go_wp2
      go_roundg (gk - 1)
      case measure => omega
      case rel => exact ⟨i + 1, A4, c4, by go_num, rfl, by omega, by omega, m1, m2, m3, hB4⟩
    · obtain rfl : i = r + 1 := by omega
      go_wp2
      go_ret
      exact ⟨A, c, rfl, hc, hcm, hA, hB⟩

set_option maxHeartbeats 4000000 in
theorem refVolume_any (q n r : Nat) (w : World) (hq : 1 ≤ q) (hq2 : q ≤ 256) (hn : n ≤ 64) (hr : r ≤ n) :
    Calls Try.prog 28 #[.int .i64 (q : Nat), .int .i64 (n : Nat), .int .i64 (r : Nat)] w (NatPost (vol q n (r + 1)) w) := by
  have eq1 : ((q : Int) - 1) = ((q - 1 : Nat) : Int) := by omega
  have HQ := hid eq1
  clear eq1
  go_enter Try.func28, Try.ntmps28
  go_wp2
  go_loopg [8, 7] (r + 1) (fun gg iv ov wx => ∃ i : Nat, ∃ A c, iv = .int .i64 (i : Nat) ∧ ov = .slice A (dl (vol q n i)) c ∧ i ≤ r + 1 ∧ r + 1 ≤ i + gg ∧ dl (vol q n i) ≤ c ∧ c ≤ maxLen ∧ NatOk wx wx.heap.size A (vol q n i) ∧ Below w.heap.size w wx)
  case atStart => exact ⟨0, some ⟨w.heap.size, 0, none⟩, 0, rfl, by simp [vol, dl_zero], by omega, by omega, by simp [vol, dl_zero], by unfold maxLen; omega, fun i hi => absurd hi (by simp [vol, dl_zero]), below_one _ _⟩
  case round =>
    obtain ⟨i, A, c, rfl, rfl, hi, hig, hc, hcm, hA, hB⟩ := hrel
    by_cases hlt : i ≤ r
    · have hd := dl_vol (q := q) (n := n) (k := i + 1) (by omega) (by omega) (by omega)
      have hd0 := dl_vol (q := q) (n := n) (k := i) (by omega) (by omega) (by omega)
      have hdc := dl_chs n i (by omega)
      have hdp := dl_power (q := q - 1) (n := i) (by omega) (by omega)
      have hdm := dl_mul_le hdc hdp
      go_wp2_with fail
      refine (refChoose_any n i wr (by omega) (by omega)).mono ?_
      rintro e w1 ⟨A1, c1, rfl, f1, f2, f3, f4⟩
      have hA1 := hA.on f4
      have hB1 := onS hB f4
      clear hA hB f4
      go_wp2_with fail
      rw [HQ.out]
      refine (refPow34_any (q - 1) i w1 (by omega) (by omega)).mono ?_
      rintro e w2 ⟨A2, c2, rfl, g1, g2, g3, g4⟩
      have hA2 := hA1.on g4
      have f5 := f3.on g4
      have hB2 := onS hB1 g4
      clear hA1 hB1 g4 f3
      go_wp2_with fail
      refine (refMul_nat A1 A2 c1 c2 _ _ w2 f5 g3 (by omega) (by omega)).mono ?_
      rintro e w3 ⟨A3, c3, rfl, k1, k2, k3, k4⟩
      have hA3 := hA2.on k4
      have hB3 := onS hB2 k4
      clear hA2 hB2 k4 f5 g3
      go_wp2_with fail
      refine (refAdd_nat A A3 c c3 _ _ w3 hA3 k3 (by omega) (by omega)).mono ?_
      rintro e w4 ⟨A4, c4, rfl, m1, m2, m3, m4⟩
      have hB4 := onS hB3 m4
      clear hA3 hB3 k3 m4
      go_wp2
      go_roundg (gk - 1)
      case measure => omega
      case rel => exact ⟨i + 1, A4, c4, by go_num, rfl, by omega, by omega, m1, m2, m3, hB4⟩
    · obtain rfl : i = r + 1 := by omega
      go_wp2
      go_ret
      exact ⟨A, c, rfl, hc, hcm, hA, hB⟩
end Go.Proofs.Ytgininddoalenaa
