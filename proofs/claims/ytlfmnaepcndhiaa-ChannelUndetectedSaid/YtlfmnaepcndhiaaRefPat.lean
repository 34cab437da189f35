/- codewrightref55.power, Pattern, Times; channel.Pattern. -/
import Derived.Test.YtlfmnaepcndhiaaPatMath
namespace Go.Proofs.Ytlfmnaepcndhiaa
open Go.RowKit

/-- A slice of one fraction, of two. -/
theorem ratList_one {w : World} (T : TypeId) {A A2 : Option Addr} {c c2 : Nat} {r : Rat} {rs : Nat → Rat} (hr : rs 0 = r) (m1 : NatOk w w.heap.size A r.num.natAbs) (m2 : NatOk w w.heap.size A2 r.den) (m3 : dl r.num.natAbs ≤ c) (m4 : c ≤ maxLen) (m5 : dl r.den ≤ c2) (m6 : c2 ≤ maxLen) :
    RatList (w.alloc (.cells #[.bool (rneg r), .slice A (dl r.num.natAbs) c, .slice A2 (dl r.den) c2] T)) (w.alloc (.cells #[.bool (rneg r), .slice A (dl r.num.natAbs) c, .slice A2 (dl r.den) c2] T)).heap.size (some ⟨w.heap.size, 0, none⟩) 1 rs := fun i hi => by
  obtain rfl : i = 0 := by omega
  subst hr
  have hb := below_one w (.cells #[.bool (rneg (rs 0)), .slice A (dl (rs 0).num.natAbs) c, .slice A2 (dl (rs 0).den) c2] T)
  have hg := heap_alloc_new w (.cells #[.bool (rneg (rs 0)), .slice A (dl (rs 0).num.natAbs) c, .slice A2 (dl (rs 0).den) c2] T)
  exact ⟨w.heap.size, 0, A, c, A2, c2, rfl, by simp, by rw [cell_of_row _ _ _ _ T (0, 0) hg]; rfl, by rw [cell_of_row _ _ _ _ T (0, 0) hg]; rfl, by rw [cell_of_row _ _ _ _ T (0, 0) hg]; rfl, m1.on hb, m2.on hb, m3, m4, m5, m6⟩
theorem RatList.letter {w W : World} {T : Option Addr} {m : Nat} {rs : Nat → Rat} (e : W = w) (h : RatList w w.heap.size T m rs) : RatList W W.heap.size T m rs := by rw [e]; exact h

set_option maxRecDepth 100000 in
set_option maxHeartbeats 8000000 in
theorem refPower_any (T : Option Addr) (m c k N : Nat) (a : Nat → Rat) (w : World) (h : RatTab w w.heap.size T m a N) (hm : m ≤ 64) (hN : N ≤ 1000) (hra : Hid (∀ i, i < m → rsz (a i) N)) (hk : k ≤ 64)
    (hL : Hid (∀ j, j ≤ k → (pwP a m j).1 ≤ 128)) (hR : Hid (∀ j, j ≤ k → ∀ i, i < (pwP a m j).1 → rsz ((pwP a m j).2 i) N)) :
    Calls Try.prog 37 #[.slice T m c, .int .i64 (k : Nat)] w (PolyPost (pwP a m k).1 (pwP a m k).2 w) := by
  have hk0 : (0 : Int) ≤ (k : Int) := by omega
  go_enter Try.func37, Try.ntmps37
  go_wp2_with fail
  refine (refInt_any 1 _ (by omega) (by omega)).mono ?_
  rintro e w1 ⟨Ap, cp, Bp, dp, rfl, m1, m2, m3, m4, m5, m6, kb⟩
  have hB := kb
  clear kb
  obtain ⟨q1, hq1⟩ : ∃ q : Rat, q = ((1 : Int) : Rat) := ⟨_, rfl⟩
  rw [← hq1] at m1 m2 m3 m5 ⊢
  have hl := ratList_one 32 (rs := (pwP a m 0).2) (r := q1) (by rw [hq1]; rfl) m1 m2 m3 m4 m5 m6
  have hb := below_one w1 (.cells #[.bool (rneg q1), .slice Ap (dl q1.num.natAbs) cp, .slice Bp (dl q1.den) dp] 32)
  replace hB := onS hB hb
  clear m1 m2 m3 m4 m5 m6 hb hq1
  go_wp2
  obtain ⟨w2, hw2⟩ : ∃ W, W = w1.alloc (.cells #[.bool (rneg q1), .slice Ap (dl q1.num.natAbs) cp, .slice Bp (dl q1.den) dp] 32) := ⟨_, rfl⟩
  rw [← hw2] at hl hB ⊢
  clear hw2
  go_loopg [5, 6] k (fun gg ov iv wx => ∃ j : Nat, ∃ A d, iv = .int .i64 (j : Nat) ∧ j ≤ k ∧ k ≤ j + gg ∧ ov = .slice A (pwP a m j).1 d ∧ (pwP a m j).1 ≤ d ∧ d ≤ maxLen ∧ RatList wx wx.heap.size A (pwP a m j).1 (pwP a m j).2 ∧ Below w.heap.size w wx)
  case atStart => exact ⟨0, _, _, rfl, by omega, by omega, rfl, Nat.le_refl 1, by unfold maxLen; omega, hl, hB⟩
  case round =>
    clear hl hB
    obtain ⟨j, A, d, rfl, hj, hjg, rfl, hd1, hd2, hl, hB⟩ := hrel
    have hj0 : (0 : Int) ≤ (j : Int) := by omega
    have hLj := hL.out j hj
    have ht := hl.tab (hR.out j hj)
    have hrs := hid (hR.out j hj)
    by_cases hlt : j < k
    · have hlt' : (j : Int) < (k : Int) := by omega
      have hmul : (pwP a m j).1 * (N + N + 1) ≤ 128 * 2001 := Nat.mul_le_mul (by omega) (by omega)
      have hnx : Hid (∀ (W : World) (e : Ending) (W' : World), PolyPost (clen (mulP (pwP a m j).2 (pwP a m j).1 a m) ((pwP a m j).1 + m)) (mulP (pwP a m j).2 (pwP a m j).1 a m) W e W' → PolyPost (pwP a m (j + 1)).1 (pwP a m (j + 1)).2 W e W') := fun _ _ _ h => h
      obtain ⟨l, hl1⟩ : ∃ l, l = (pwP a m j).1 := ⟨_, rfl⟩
      obtain ⟨R, hR1⟩ : ∃ R, R = (pwP a m j).2 := ⟨_, rfl⟩
      rw [← hl1] at hLj hmul hd1
      rw [← hl1, ← hR1] at ht hrs hnx
      rw [← hl1]
      clear hl hl1 hR1
      go_wp2_with fail
      refine ((refPMul_any A T l d m c N (128 * 2001) R a _ ht (h.on hB) (by omega) (by omega) hmul (by omega) hrs hra).mono (fun e W' => hnx.out _ e W')).mono ?_
      rintro e w3 ⟨A3, c3, rfl, l1, l2, l3, kb⟩
      replace hB := onS hB kb
      obtain ⟨l', hl1⟩ : ∃ l, l = (pwP a m (j + 1)).1 := ⟨_, rfl⟩
      rw [← hl1]
      have HL1 := hid hl1
      clear hl1 hmul hnx kb ht hrs
      go_wp2
      go_roundg (gk - 1)
      case measure => omega
      case rel => exact ⟨j + 1, A3, c3, by go_num, by omega, by omega, by rw [HL1.out], l1, l2, l3, hB⟩
    · obtain rfl : j = k := by omega
      have hlt' : ¬ (j : Int) < (j : Int) := by omega
      obtain ⟨l, hl1⟩ : ∃ l, l = (pwP a m j).1 := ⟨_, rfl⟩
      rw [← hl1]
      have HL1 := hid hl1
      clear hl1 ht hrs hLj
      go_wp2
      go_ret
      exact ⟨_, _, by rw [HL1.out]; rfl, hd1, hd2, hl, hB⟩

theorem rsz_pw {u : Rat} {N : Nat} (hu : rsz u N) (k : Nat) (hk : k ≤ 64) : rsz (powR u k) (1 + 64 * N) := (rsz_powR hu k).mono (by have : k * N ≤ 64 * N := Nat.mul_le_mul_right N hk; omega)
theorem rsz_sg {i c : Nat} {L : Nat} (h : dl c ≤ L) (hL : 1 ≤ L) : rsz (sg i c) L := by
  have : sg i c = rv (decide (i % 2 = 1)) c 1 := by
    unfold sg rv
    rw [← Rat.mkRat_one]
    simp
  rw [this]
  exact rsz_rv h (by rw [dl_one]; exact hL) hL

set_option maxRecDepth 100000 in
set_option maxHeartbeats 8000000 in
theorem refPattern_any (q n v : Nat) (w : World) (hq : 2 ≤ q) (hq2 : q ≤ 256) (hn : n ≤ 64) (hv : v ≤ n) :
    Calls Try.prog 10 #[.int .i64 (q : Nat), .int .i64 (n : Nat), .int .i64 (v : Nat)] w (PolyPost (n + 1) (patR q n v) w) := by
  have hq1 : ((q : Int) - 1) = ((q - 1 : Nat) : Int) := by omega
  have hnv : ((n : Int) - (v : Int)) = ((n - v : Nat) : Int) := by omega
  have hq0 : (2 : Int) ≤ (q : Int) := by omega
  have hq3 : (q : Int) ≤ 256 := by omega
  have hv0 : (0 : Int) ≤ (v : Int) := by omega
  have hn0 : (0 : Int) ≤ (n : Int) := by omega
  have hn1 : (n : Int) ≤ 64 := by omega
  have hvn : (v : Int) ≤ (n : Int) := by omega
  have hu0 : ((0 : Int) : Rat) = 0 := rfl
  have huv : rv (decide ((1 : Int) < 0) != decide (((q - 1 : Nat) : Int) < 0)) (1 : Int).natAbs ((q - 1 : Nat) : Int).natAbs = mkRat 1 (q - 1) := by
    have : decide (((q - 1 : Nat) : Int) < 0) = false := by simp
    rw [this]
    show mkRat _ _ = _
    simp
  have hsu : rsz (mkRat 1 (q - 1)) 1 := rsz_rv (s := false) (x := 1) (y := q - 1) (by rw [dl_one]; omega) (dl_le (by omega)) (by omega)
  obtain ⟨pl, pv⟩ := pat_eq hq hv
  have HU := hid hu0
  have HUV := hid huv
  -- the sizes
  have hA := pwP_mono (mkRat 1 (q - 1)) (mkRat_ne (by omega))
  have hC := pwP_alt
  have hLA : Hid (∀ j, j ≤ v → (pwP (pairR 0 (mkRat 1 (q - 1))) 2 j).1 ≤ 128) := fun j hj => by rw [(hA j).1]; omega
  have hRA : Hid (∀ j, j ≤ v → ∀ i, i < (pwP (pairR 0 (mkRat 1 (q - 1))) 2 j).1 → rsz ((pwP (pairR 0 (mkRat 1 (q - 1))) 2 j).2 i) 200) := fun j hj i hi => by
    rw [(hA j).1] at hi
    rw [(hA j).2 i hi]
    split
    · exact (rsz_pw hsu j (by omega)).mono (by omega)
    · exact rsz_zero.mono (by omega)
  have hLC : Hid (∀ j, j ≤ n - v → (pwP (pairR ((1 : Int) : Rat) (((-1 : Int)) : Rat)) 2 j).1 ≤ 128) := fun j hj => by rw [(hC j).1]; omega
  have hRC : Hid (∀ j, j ≤ n - v → ∀ i, i < (pwP (pairR ((1 : Int) : Rat) (((-1 : Int)) : Rat)) 2 j).1 → rsz ((pwP (pairR ((1 : Int) : Rat) (((-1 : Int)) : Rat)) 2 j).2 i) 200) := fun j hj i hi => by
    rw [(hC j).1] at hi
    rw [(hC j).2 i hi]
    exact rsz_sg (by have := dl_chs j i (by omega); omega) (by omega)
  have hsA : Hid (∀ i, i < 2 → rsz (pairR 0 (mkRat 1 (q - 1)) i) 200) := fun i hi => by unfold pairR; split; exact rsz_zero.mono (by omega); exact hsu.mono (by omega)
  have hsC : Hid (∀ i, i < 2 → rsz (pairR ((1 : Int) : Rat) (((-1 : Int)) : Rat) i) 200) := fun i hi => by unfold pairR; split; exact rsz_one.mono (by omega); exact (rsz_neg rsz_one).mono (by omega)
  have hlA := (hA v).1
  have hlC := (hC (n - v)).1
  clear hA hC hu0 huv
  obtain ⟨u, hu⟩ : ∃ u, u = mkRat 1 (q - 1) := ⟨_, rfl⟩
  rw [← hu] at HUV hsu hLA hRA hsA hlA pl pv
  clear hu
  obtain ⟨z, hz⟩ : ∃ z : Rat, z = 0 := ⟨_, rfl⟩
  rw [← hz] at HU hLA hRA hsA hlA pl pv
  have hsz : rsz z 1 := by rw [hz]; exact rsz_zero
  clear hz
  obtain ⟨o, ho⟩ : ∃ z : Rat, z = ((1 : Int) : Rat) := ⟨_, rfl⟩
  rw [← ho] at hLC hRC hsC hlC pl pv
  have hso : rsz o 1 := by rw [ho]; exact rsz_one
  have HO := hid ho
  clear ho
  obtain ⟨mo, hmo⟩ : ∃ z : Rat, z = ((-1 : Int) : Rat) := ⟨_, rfl⟩
  rw [← hmo] at hLC hRC hsC hlC pl pv
  have hsm : rsz mo 1 := by rw [hmo]; exact rsz_neg rsz_one
  have HMO := hid hmo
  clear hmo
  have PL := hid pl
  have PV := hid pv
  clear pl pv
  go_enter Try.func10, Try.ntmps10
  go_wp2_with fail
  refine (refInt_any 0 _ (by omega) (by omega)).mono ?_
  rintro e w1 ⟨Aa, ca, Ba, da, rfl, a1, a2, a3, a4, a5, a6, kb⟩
  rw [HU.out] at a1 a2 a3 a5 ⊢
  have hB := kb
  clear kb
  go_wp2_with fail
  refine (refOf02_any 1 ((q - 1 : Nat) : Int) _ (by omega) (by omega) (by omega) (by omega)).mono ?_
  rintro e w2 ⟨Ab, cb, Bb, db, rfl, b1, b2, b3, b4, b5, b6, kb⟩
  rw [HUV.out] at b1 b2 b3 b5 ⊢
  replace a1 := a1.on kb
  replace a2 := a2.on kb
  replace hB := onS hB kb
  clear kb
  have kb := below_one w2 (.cells #[.bool (rneg z), .slice Aa (dl z.num.natAbs) ca, .slice Ba (dl z.den) da, .bool (rneg u), .slice Ab (dl u.num.natAbs) cb, .slice Bb (dl u.den) db] 32)
  have tb := ratTab_pair 32 (N := 200) (ratPost_raw a1 a2 a3 a4 a5 a6 (hsz.mono (by omega))) (ratPost_raw b1 b2 b3 b4 b5 b6 (hsu.mono (by omega)))
  replace hB := onS hB kb
  clear kb a1 a2 a3 a4 a5 a6 b1 b2 b3 b4 b5 b6
  go_wp2_with fail
  refine (refPower_any _ 2 2 v 200 (pairR z u) _ tb (by omega) (by omega) hsA (by omega) hLA hRA).mono ?_
  rintro e w3 ⟨Ac, cc, rfl, c1, c2, c3, kb⟩
  replace hB := onS hB kb
  clear kb tb
  rw [hlA] at c1 ⊢
  go_wp2_with fail
  refine (refInt_any 1 _ (by omega) (by omega)).mono ?_
  rintro e w4 ⟨Aa, ca, Ba, da, rfl, a1, a2, a3, a4, a5, a6, kb⟩
  rw [← HO.out] at a1 a2 a3 a5 ⊢
  replace c3 := c3.on kb
  replace hB := onS hB kb
  clear kb
  go_wp2_with fail
  refine (refInt_any (-1) _ (by omega) (by omega)).mono ?_
  rintro e w5 ⟨Ab, cb, Bb, db, rfl, b1, b2, b3, b4, b5, b6, kb⟩
  rw [← HMO.out] at b1 b2 b3 b5 ⊢
  replace a1 := a1.on kb
  replace a2 := a2.on kb
  replace c3 := c3.on kb
  replace hB := onS hB kb
  clear kb
  have kb := below_one w5 (.cells #[.bool (rneg o), .slice Aa (dl o.num.natAbs) ca, .slice Ba (dl o.den) da, .bool (rneg mo), .slice Ab (dl mo.num.natAbs) cb, .slice Bb (dl mo.den) db] 32)
  have tb := ratTab_pair 32 (N := 200) (ratPost_raw a1 a2 a3 a4 a5 a6 (hso.mono (by omega))) (ratPost_raw b1 b2 b3 b4 b5 b6 (hsm.mono (by omega)))
  replace c3 := c3.on kb
  replace hB := onS hB kb
  clear kb a1 a2 a3 a4 a5 a6 b1 b2 b3 b4 b5 b6
  go_wp2_with fail
  refine (refPower_any _ 2 2 (n - v) 200 (pairR o mo) _ tb (by omega) (by omega) hsC (by omega) hLC hRC).mono ?_
  rintro e w6 ⟨Ad, cd, rfl, d1, d2, d3, kb⟩
  replace c3 := c3.on kb
  replace hB := onS hB kb
  clear kb tb
  rw [hlC] at d1 ⊢
  have tc := RatList.tab c3 (hRA.out v (Nat.le_refl _))
  have td := RatList.tab d3 (hRC.out (n - v) (Nat.le_refl _))
  have hrc := hid (hRA.out v (Nat.le_refl _))
  have hrd := hid (hRC.out (n - v) (Nat.le_refl _))
  rw [hlA] at tc hrc
  rw [hlC] at td hrd
  rw [hlA, hlC] at PL PV
  have hmul : (v + 1) * (200 + 200 + 1) ≤ 65 * 401 := Nat.mul_le_mul (by omega) (by omega)
  have HK : Hid (∀ (W : World) (e : Ending) (W' : World), PolyPost (clen (mulP (pwP (pairR z u) 2 v).2 (v + 1) (pwP (pairR o mo) 2 (n - v)).2 (n - v + 1)) (v + 1 + (n - v + 1))) (mulP (pwP (pairR z u) 2 v).2 (v + 1) (pwP (pairR o mo) 2 (n - v)).2 (n - v + 1)) W e W' → PolyPost (n + 1) (patR q n v) W e W') := fun W e W' ⟨A, c, h1, h2, h3, h4, h5⟩ => by
    rw [PL.out] at h1 h2 h4
    exact ⟨A, c, h1, h2, h3, h4.congr PV.out, h5⟩
  clear hlA hlC c3 d3 PL PV
  go_wp2_with fail
  refine ((refPMul_any Ac Ad (v + 1) cc (n - v + 1) cd 200 (65 * 401) _ _ _ tc td (by omega) (by omega) hmul (by omega) hrc hrd).mono (fun e W' => HK.out _ e W')).mono ?_
  rintro e w7 ⟨A3, c3, rfl, l1, l2, l3, kb⟩
  replace hB := onS hB kb
  obtain ⟨M, hM⟩ : ∃ M, M = n + 1 := ⟨_, rfl⟩
  rw [← hM] at l1 l3 ⊢
  have HM := hid hM
  clear kb hM tc td
  go_wp2
  go_ret
  rw [← HM.out]
  exact ⟨_, _, rfl, l1, l2, l3, hB⟩
end Go.Proofs.Ytlfmnaepcndhiaa
