/- nat.DivMod. -/
import Derived.Test.YtgininddoalenaaLong
import Derived.Test.YtgininddoalenaaNatSub
namespace Go.Proofs.Ytgininddoalenaa
open Go.RowKit

/-- What DivMod leaves where the divisor is not 0. -/
def DivPost (x y : Nat) (w : World) (e : Ending) (w' : World) : Prop :=
  ∃ A c A2 c2, e = .returned (.tuple #[.slice A (dl (x / y)) c, .slice A2 (dl (x % y)) c2, .int .i64 0]) ∧ dl (x / y) ≤ c ∧ c ≤ maxLen ∧ dl (x % y) ≤ c2 ∧ c2 ≤ maxLen ∧ NatOk w' w'.heap.size A (x / y) ∧ NatOk w' w'.heap.size A2 (x % y) ∧ Below w.heap.size w w'

set_option maxRecDepth 100000 in
set_option maxHeartbeats 4000000 in
theorem natDivMod_any (A A2 : Option Addr) (c c2 x y : Nat) (w : World) (h : NatOk w w.heap.size A x) (h2 : NatOk w w.heap.size A2 y) (hc : dl x ≤ c) (hm : c ≤ maxLen) (hc2 : dl y ≤ c2) (hm2 : c2 ≤ maxLen) (hn : dl x ≤ 268435456) (hn2 : dl y ≤ 268435456) (hy : 0 < y) :
    Calls Try.prog 109 #[.slice A (dl x) c, .slice A2 (dl y) c2] w (DivPost x y w) := by
  have hdy : dl y ≠ 0 := fun e => by have := dl_eq_zero.1 e; omega
  have hx9 : dl x ≤ maxLen := by unfold maxLen; omega
  have hy9 : dl y ≤ maxLen := by unfold maxLen; omega
  have hdz : ((dl y : Nat) : Int) ≠ 0 := by omega
  have hdb : (((dl y : Nat) : Int) == 0) = false := by simp; omega
  have HXY := hid (show dl (x / y) ≤ dl x from dl_mono (Nat.div_le_self _ _))
  have HXM := hid (show dl (x % y) ≤ dl y from dl_mono (Nat.le_of_lt (Nat.mod_lt _ hy)))
  go_enter Try.func109, Try.ntmps109
  go_wp2_with fail
  refine (short_nat A c x w h hc hm).mono ?_
  rintro e w1 ⟨rfl, rfl⟩
  go_wp2_with fail
  refine (short_nat A2 c2 y w h2 hc2 hm2).mono ?_
  rintro e w1 ⟨rfl, rfl⟩
  rcases Nat.lt_or_ge x y with hlt | hge
  · have hq : x / y = 0 := Nat.div_eq_of_lt hlt
    have hr : x % y = x := Nat.mod_eq_of_lt hlt
    have HC := hid (cmpN_lt hlt)
    have HQ := hid hq
    have HR := hid hr
    clear hq hr
    go_wp2_with fail
    refine (natCmp_any A A2 (dl x) (dl y) x y w h h2 (Nat.le_refl _) hx9 (Nat.le_refl _) hy9 (by omega)).mono ?_
    rintro e w1 ⟨rfl, hb1⟩
    rw [HC.out]
    have g1 := h.on hb1
    clear h h2
    go_wp2_with fail
    refine (trim_nat A (dl x) x w1 g1 (Nat.le_refl _) hx9 (by omega)).mono ?_
    rintro e w2 ⟨A3, c3, rfl, k1, k2, k3, k4⟩
    have hB := onS hb1 k4
    clear k4 hb1
    go_wp2
    go_ret3
    exact ⟨none, 0, A3, c3, by rw [HQ.out, HR.out, dl_zero]; rfl, by rw [HQ.out, dl_zero]; omega, by unfold maxLen; omega, by rw [HR.out]; exact k1, k2, by rw [HQ.out]; exact fun i hi => absurd hi (by rw [dl_zero]; omega), by rw [HR.out]; exact k3, hB⟩
  · obtain ⟨z, hz⟩ : ∃ z, z = cmpN x y := ⟨_, rfl⟩
    have hz0 : ¬ z < 0 := by
      rw [hz]
      rcases Nat.lt_or_ge y x with e | e
      · rw [cmpN_gt e]; omega
      · rw [cmpN_eq (by omega)]; omega
    have HZ := hid hz
    clear hz
    by_cases h1 : dl y = 1
    · have hy1 : y < 4294967296 := by have := lt_pow_dl y; rw [h1] at this; omega
      have t0 : ∃ b o, A2 = some ⟨b, o, none⟩ ∧ b < w.heap.size ∧ w.cell? ⟨b, o, none⟩ = some (.int .u32 (y : Nat)) := by
        obtain ⟨b, o, e, g1, g3⟩ := h2.at (i := 0) (by omega)
        rw [dg_small hy1] at g3
        exact ⟨b, o, e, g1, g3⟩
      obtain ⟨b, o, rfl, hbw, t0⟩ := t0
      have H1 := hid h1
      have hL : Lims w w.heap.size A (dl x) (dg x) := h
      have HMD : Hid (x % y < 4294967296) := by have := Nat.mod_lt x hy; show _ < _; omega
      rw [h1]
      clear hdz hdb hdy
      have h2' := h2
      unfold NatOk at h2'
      go_wp2_with fail
      refine (show Calls _ _ _ w fun e w' => e = .returned (.int .i64 (cmpN x y)) ∧ Below w.heap.size w w' from by have := natCmp_any A (some ⟨b, o, none⟩) (dl x) 1 x y w h h2 (Nat.le_refl _) hx9 (by omega) (by unfold maxLen; omega) (by omega); rw [h1] at this; exact this).mono ?_
      rintro e w1 ⟨rfl, hb1⟩
      rw [← HZ.out]
      have g1 := hL.on hb1
      have t1 := (hb1.cell (p := ⟨b, o, none⟩) hbw).trans t0
      clear h h2 h2' t0 h1
      go_wp2_with fail
      refine (digit_any A (dl x) (dl x) y (dg x) w1 g1 (dg_all x) (by omega) hy hy1).mono ?_
      rintro e w2 ⟨A3, c3, rfl, k1, k2, k3, k4⟩
      rw [nv_dg] at k1 k3 ⊢
      have hB2 := onS hb1 k4
      clear k4 hb1
      have HU : Hid ((((x % y : Nat) : Int)) % 18446744073709551616 = ((x % y : Nat) : Int)) := by have := HMD.out; show _ = _; omega
      obtain ⟨r, hr⟩ : ∃ r, r = x % y := ⟨_, rfl⟩
      rw [← hr]
      have HRR := hid hr
      have hrb : r < 4294967296 := by rw [hr]; exact HMD.out
      clear hr
      go_wp2_with fail
      refine (natOf_any r w2 (by omega)).mono ?_
      rintro e w3 ⟨A4, c4, rfl, m1, m2, m3, m4⟩
      rw [HRR.out] at m1 m3 ⊢
      have k5 := k3.on m4
      have hB3 := onS hB2 m4
      clear m4 k3
      go_wp2
      go_ret3
      exact ⟨A3, c3, A4, c4, rfl, k1, k2, m1, m2, k5, m3, hB3⟩
    · have hd1 : (((dl y : Nat) : Int) == 1) = false := by simp; omega
      obtain ⟨m, hm2'⟩ : ∃ m, dl y = m + 2 := ⟨dl y - 2, by omega⟩
      have HM := hid hm2'
      clear hm2' h1
      go_wp2_with fail
      refine (natCmp_any A A2 (dl x) (dl y) x y w h h2 (Nat.le_refl _) hx9 (Nat.le_refl _) hy9 (by omega)).mono ?_
      rintro e w1 ⟨rfl, hb1⟩
      rw [← HZ.out]
      have g1 := h.on hb1
      have g2 := h2.on hb1
      clear h h2
      go_wp2_with fail
      refine (long_any A A2 (dl x) (dl y) x y m w1 g1 g2 HM.out hge hn).mono ?_
      rintro e w2 ⟨A3, n3, o3, A4, m4, r4, rfl, k1, k2, k3, k4, k5, k6, k7, k8, k9⟩
      have hB2 := onS hb1 k9
      have HK7 := hid k7
      have HK8 := hid k8
      have HK5 : Hid (∀ i, i < n3 → o3 i < 4294967296) := k5
      have HK6 : Hid (∀ i, i < m4 → r4 i < 4294967296) := k6
      clear k9 hb1 g1 g2 k7 k8 k5 k6
      go_wp2_with fail
      refine (trim_any A3 n3 n3 o3 w2 k3 HK5 (Nat.le_refl _) (by unfold maxLen; omega) (by omega)).mono ?_
      rintro e w3 ⟨A5, c5, rfl, p1, p2, p3, p4⟩
      rw [HK7.out] at p1 p3 ⊢
      have k4' := k4.on p4
      have hB3 := onS hB2 p4
      clear p4 k3 k4 hB2
      go_wp2_with fail
      refine (trim_any A4 m4 m4 r4 w3 k4' HK6 (Nat.le_refl _) (by unfold maxLen; omega) (by omega)).mono ?_
      rintro e w4 ⟨A6, c6, rfl, q1, q2, q3, q4⟩
      rw [HK8.out] at q1 q3 ⊢
      have p5 := p3.on q4
      have hB4 := onS hB3 q4
      clear q4 k4' hB3 p3
      go_wp2
      go_ret3
      exact ⟨A5, c5, A6, c6, rfl, p1, p2, q1, q2, p5, q3, hB4⟩

set_option maxHeartbeats 2000000 in
theorem over_any (A A2 : Option Addr) (c c2 x y : Nat) (w : World) (h : NatOk w w.heap.size A x) (h2 : NatOk w w.heap.size A2 y) (hc : dl x ≤ c) (hm : c ≤ maxLen) (hc2 : dl y ≤ c2) (hm2 : c2 ≤ maxLen) (hn : dl x ≤ 268435456) (hn2 : dl y ≤ 268435456) (hy : 0 < y) :
    Calls Try.prog 77 #[.slice A (dl x) c, .slice A2 (dl y) c2] w (NatPost (x / y) w) := by
  go_enter Try.func77, Try.ntmps77
  go_wp2_with fail
  refine (natDivMod_any A A2 c c2 x y w h h2 hc hm hc2 hm2 hn hn2 hy).mono ?_
  rintro e w1 ⟨A3, c3, A4, c4, rfl, k1, k2, k3, k4, k5, k6, k7⟩
  clear h h2
  go_wp2
  go_ret
  exact ⟨A3, c3, rfl, k1, k2, k5, k7⟩
end Go.Proofs.Ytgininddoalenaa
