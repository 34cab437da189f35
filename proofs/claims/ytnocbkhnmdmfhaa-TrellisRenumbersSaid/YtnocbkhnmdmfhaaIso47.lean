/- trellis.Isomorphic and codewrightref47.Isomorphic. -/
import Derived.Test.YtnocbkhnmdmfhaaRenum
import Derived.Test.YtnocbkhnmdmfhaaRefRen
import Derived.Test.YtnocbkhnmdmfhaaSame47
import Derived.Test.YtnocbkhnmdmfhaaTurnMath
namespace Go.Proofs.Ytnocbkhnmdmfhaa
open Go.RowKit

/-- The renumbered graphs are the same. -/
def IsoT (T U : Trel) : Prop := T.properE = 0 ∧ U.properE = 0 ∧ ∃ y z, IsRen T y ∧ IsRen U z ∧ SameT (T.re y) (U.re z)
theorem EqSecs.of_unique {T U : Trel} {y y' z z' : Nat → Nat → Int × Int × Int} (h1 : IsRen T y) (h1' : IsRen T y') (h2 : IsRen U z) (h2' : IsRen U z') (h : SameT (T.re y') (U.re z')) : SameT (T.re y) (U.re z) := by
  obtain ⟨h3, h4, h5⟩ := h
  refine ⟨h3, h4, fun i hi => ⟨(h5 i hi).1, fun j hj => ?_⟩⟩
  have hi' : i < T.n := hi
  have hiU : i < U.n := by have : T.n = U.n := h4; omega
  have hj' : j < T.el i := hj
  have hjU : j < U.el i := by have : T.el i = U.el i := (h5 i hi).1; omega
  have e := (h5 i hi).2 j hj
  have e1 : (T.re y').ed i j = y' i j := rfl
  have e2 : (U.re z').ed i j = z' i j := rfl
  show y i j = z i j
  rw [e1, e2] at e
  rw [(h1 i hi').unique (h1' i hi') hj', e, (h2' i hiU).unique (h2 i hiU) hjU]
theorem IsoT.iff {T U : Trel} (hT : T.properE = 0) (hU : U.properE = 0) {y z : Nat → Nat → Int × Int × Int} (h1 : IsRen T y) (h2 : IsRen U z) : IsoT T U ↔ SameT (T.re y) (U.re z) := by
  constructor
  · rintro ⟨_, _, y', z', k1, k2, k3⟩
    exact EqSecs.of_unique h1 k1 h2 k2 k3
  · intro h
    exact ⟨hT, hU, y, z, h1, h2, h⟩
theorem RenumPost.both {T : Trel} {w w' : World} {e : Ending} (h : RenumPost T w e w') : ∃ A B n m c d, e = .returned (.tuple #[.agg #[.slice A n c, .slice B m d], .int .i64 T.properE]) ∧ Below w.heap.size w w' ∧ (T.properE = 0 → n = T.nw ∧ m = T.n ∧ ∃ y, IsRen T y ∧ RenOut T y w' A B c d) := by
  obtain ⟨hb, h | h⟩ := h
  · obtain ⟨h1, h2⟩ := h
    exact ⟨none, none, 0, 0, 0, 0, h2, hb, fun h3 => absurd h3 h1⟩
  · obtain ⟨h1, y, A, B, c, d, h2, h3, h4⟩ := h
    exact ⟨A, B, T.nw, T.n, c, d, by rw [h1]; exact h2, hb, fun _ => ⟨rfl, rfl, y, h3, h4⟩⟩
set_option maxRecDepth 100000 in
set_option maxHeartbeats 8000000 in
theorem iso_any (T U : Trel) (A B A' B' : Option Addr) (c d c' d' : Nat) (w : World) (hT : T.Reads w A B) (hU : U.Reads w A' B') (hc : T.nw ≤ c) (hc' : U.nw ≤ c') :
    Calls Try.prog 39 #[.agg #[.slice A T.nw c, .slice B T.n d], .agg #[.slice A' U.nw c', .slice B' U.n d']] w (Says (IsoT T U) w) := by
  obtain ⟨R1, hR1⟩ : ∃ o, o = (Obj.cells #[.slice A T.nw c, .slice B T.n d] 25) := ⟨_, rfl⟩
  obtain ⟨R2, hR2⟩ : ∃ o, o = (Obj.cells #[.slice A' U.nw c', .slice B' U.n d'] 25) := ⟨_, rfl⟩
  have hB0 : Below (w.heap.size + 2) ((w.alloc R1).alloc R2) ((w.alloc R1).alloc R2) := Below.refl _ _
  have HS : Hid (∀ w', Below (w.heap.size + 2) ((w.alloc R1).alloc R2) w' → (w'.cell? ⟨w.heap.size, 0, none⟩ = some (.slice A T.nw c) ∧ w'.cell? ⟨w.heap.size, 1, none⟩ = some (.slice B T.n d) ∧ w'.cell? ⟨w.heap.size + 1, 0, none⟩ = some (.slice A' U.nw c') ∧ w'.cell? ⟨w.heap.size + 1, 1, none⟩ = some (.slice B' U.n d')) ∧ Below w.heap.size w w') := fun w' hB => by
    have k1 := box2_one hB
    have k2 : w'.rowIs (w.heap.size + 1) 25 2 (fun i => (#[Value.slice A' U.nw c', .slice B' U.n d'] : Array Value).getD i undef) := by subst hR2; exact box2_two hB
    have hB' := tbox_below k1
    subst hR1
    exact ⟨⟨tbox k1 rfl, tbox k1 rfl, k2.cell (i := 0) (by omega), k2.cell (i := 1) (by omega)⟩, hB'⟩
  have HT := hid hT
  have HU := hid hU
  clear hT hU
  obtain ⟨⟨p0, p1, p2, p3⟩, hW⟩ := HS.out _ hB0
  go_enter Try.func39, Try.ntmps39
  go_upto_region 1 with fail
  rw [← hR1, ← hR2]
  clear hR1 hR2
  obtain ⟨w1, hw1⟩ : ∃ W, W = (w.alloc R1).alloc R2 := ⟨_, rfl⟩
  have hz0 : w.heap.size + 2 ≤ w1.heap.size := by rw [hw1]; simp
  rw [← hw1] at p0 p1 p2 p3 hW ⊢
  have HB1 : Hid (Below (w.heap.size + 2) ((w.alloc R1).alloc R2) w1) := by rw [hw1]; exact hB0
  clear hw1 hB0
  go_wp2_with fail
  refine (renum_any T A B c d w1 (HT.out.on hW) hc).mono ?_
  rintro e w2 hpost
  obtain ⟨A1, B1, n1, m1, c1, d1, rfl, hb, hk⟩ := hpost.both
  have HB2 := hid (HB1.out.trans (hb.mono hz0))
  have hz2 : w.heap.size + 2 ≤ w2.heap.size := Nat.le_trans hz0 hb.size
  clear p0 p1 p2 p3 hW hb HB1
  obtain ⟨⟨p0, p1, p2, p3⟩, hW⟩ := HS.out _ HB2.out
  obtain ⟨e1, he1⟩ : ∃ x, x = T.properE := ⟨_, rfl⟩
  have HE1 := hid he1
  have HK := hid hk
  rw [← he1]
  clear he1 hk hpost
  go_upto_region 2 with fail
  have kb3 : Below w2.heap.size w2 (w2.alloc (Obj.cells #[.slice A1 n1 c1, .slice B1 m1 d1] 25)) := (Below.refl _ _).alloc (Nat.le_refl _) _
  have b5 : (w2.alloc (Obj.cells #[.slice A1 n1 c1, .slice B1 m1 d1] 25)).cell? ⟨w2.heap.size, 0, none⟩ = some (.slice A1 n1 c1) := tbox (Below.refl _ _) rfl
  have b6 : (w2.alloc (Obj.cells #[.slice A1 n1 c1, .slice B1 m1 d1] 25)).cell? ⟨w2.heap.size, 1, none⟩ = some (.slice B1 m1 d1) := tbox (Below.refl _ _) rfl
  obtain ⟨w3, hw3⟩ : ∃ W, W = w2.alloc (Obj.cells #[.slice A1 n1 c1, .slice B1 m1 d1] 25) := ⟨_, rfl⟩
  rw [← hw3] at kb3 b5 b6 ⊢
  obtain ⟨q1, hq1⟩ : ∃ b, b = w2.heap.size := ⟨_, rfl⟩
  rw [← hq1] at b5 b6 ⊢
  have HB3 := hid (HB2.out.trans (kb3.mono hz2))
  have HK3 : Hid (T.properE = 0 → n1 = T.nw ∧ m1 = T.n ∧ ∃ y, IsRen T y ∧ RenOut T y w3 A1 B1 c1 d1) := fun h => by
    obtain ⟨k1, k2, y, k3, k4⟩ := HK.out h
    exact ⟨k1, k2, y, k3, k4.on kb3⟩
  have hz3 : w.heap.size + 2 ≤ w3.heap.size := Nat.le_trans hz2 kb3.size
  clear p0 p1 p2 p3 hW HB2 HK kb3 hw3 hq1
  obtain ⟨⟨p0, p1, p2, p3⟩, hW⟩ := HS.out _ HB3.out
  go_wp2_with fail
  refine (renum_any U A' B' c' d' w3 (HU.out.on hW) hc').mono ?_
  rintro e w4 hpost
  obtain ⟨A2, B2, n2, m2, c2, d2, rfl, hb, hk⟩ := hpost.both
  have HB4 := hid (HB3.out.trans (hb.mono hz3))
  have hz4 : w.heap.size + 2 ≤ w4.heap.size := Nat.le_trans hz3 hb.size
  have HK4 : Hid (T.properE = 0 → n1 = T.nw ∧ m1 = T.n ∧ ∃ y, IsRen T y ∧ RenOut T y w4 A1 B1 c1 d1) := fun h => by
    obtain ⟨k1, k2, y, k3, k4⟩ := HK3.out h
    exact ⟨k1, k2, y, k3, k4.on hb⟩
  replace b5 := cellS hb b5
  replace b6 := cellS hb b6
  obtain ⟨e2, he2⟩ : ∃ x, x = U.properE := ⟨_, rfl⟩
  have HE2 := hid he2
  have HKU := hid hk
  rw [← he2]
  clear p0 p1 p2 p3 hW hb HB3 HK3 he2 hk hpost
  go_upto_region 3 with fail
  have kb5 : Below w4.heap.size w4 (w4.alloc (Obj.cells #[.slice A2 n2 c2, .slice B2 m2 d2] 25)) := (Below.refl _ _).alloc (Nat.le_refl _) _
  have b7 : (w4.alloc (Obj.cells #[.slice A2 n2 c2, .slice B2 m2 d2] 25)).cell? ⟨w4.heap.size, 0, none⟩ = some (.slice A2 n2 c2) := tbox (Below.refl _ _) rfl
  have b8 : (w4.alloc (Obj.cells #[.slice A2 n2 c2, .slice B2 m2 d2] 25)).cell? ⟨w4.heap.size, 1, none⟩ = some (.slice B2 m2 d2) := tbox (Below.refl _ _) rfl
  obtain ⟨w5, hw5⟩ : ∃ W, W = w4.alloc (Obj.cells #[.slice A2 n2 c2, .slice B2 m2 d2] 25) := ⟨_, rfl⟩
  rw [← hw5] at kb5 b7 b8 ⊢
  obtain ⟨q2, hq2⟩ : ∃ b, b = w4.heap.size := ⟨_, rfl⟩
  rw [← hq2] at b7 b8 ⊢
  replace b5 := cellS kb5 b5
  replace b6 := cellS kb5 b6
  have hWf := (HS.out _ (HB4.out.trans (kb5.mono hz4))).2
  clear hw5 hq2
  by_cases ht : e1 = 0
  · have ht' : (e1 == 0) = true := by simp [ht]
    by_cases hu : e2 = 0
    · have hu' : (e2 == 0) = true := by simp [hu]
      obtain ⟨rfl, rfl, y, hy, ho⟩ := HK4.out (by rw [← HE1.out]; exact ht)
      obtain ⟨rfl, rfl, z, hz, ho2⟩ := HKU.out (by rw [← HE2.out]; exact hu)
      have hP := Trel.proper_of (T := T) (by rw [← HE1.out]; exact ht)
      have hQ := Trel.proper_of (T := U) (by rw [← HE2.out]; exact hu)
      have HR1 := hid ((ho.on kb5).reads hP hy).1
      have HR2 := hid ((ho2.on kb5).reads hQ hz).1
      have HISO := hid (IsoT.iff (by rw [← HE1.out]; exact ht) (by rw [← HE2.out]; exact hu) hy hz)
      have hnw : T.nw ≤ 140737488351232 := by have := hP.shape.nw; have := hP.shape.n64; omega
      clear hy hz ho ho2 kb5 HB4 HK4 HKU
      go_wp2_with fail
      refine (equalInts_any A1 A2 T.nw U.nw c1 c2 T.W U.W w5 HR1.out.1 HR2.out.1 hnw).mono ?_
      rintro e w6 ⟨r, rfl, hr, hb6⟩
      have HR := hid hr
      have hW6 := onS hWf hb6
      replace b5 := cellS hb6 b5
      replace b6 := cellS hb6 b6
      replace b7 := cellS hb6 b7
      replace b8 := cellS hb6 b8
      have HR3 := hid (HR1.out.on hb6)
      have HR4 := hid (HR2.out.on hb6)
      clear hr hb6 hWf HR1 HR2
      cases r
      · go_wp2
        go_ret
        exact Says.no (fun h => absurd (HR.out.2 (HISO.out.1 h).1) (by decide)) hW6
      · go_wp2_with fail
        refine (equalSecs_any (T.re y) (U.re z) A1 B1 A2 B2 d1 d2 w6 HR3.out HR4.out).mono ?_
        rintro e w7 ⟨s, rfl, hs, hb7⟩
        have HSS := hid hs
        have hW7 := onS hW6 hb7
        clear hs hb7 hW6 b5 b6 b7 b8
        cases s
        · go_wp2
          go_ret
          exact Says.no (fun h => absurd (HSS.out.2 (HISO.out.1 h).2) (by decide)) hW7
        · go_wp2
          go_ret
          exact Says.yes (HISO.out.2 ⟨HR.out.1 (by first | rfl | trivial), HSS.out.1 (by first | rfl | trivial)⟩) hW7
    · have hu' : (e2 == 0) = false := by simp [hu]
      go_wp2
      go_ret
      exact Says.no (fun h => hu (by rw [HE2.out]; exact h.2.1)) hWf
  · have ht' : (e1 == 0) = false := by simp [ht]
    go_wp2
    go_ret
    exact Says.no (fun h => ht (by rw [HE1.out]; exact h.1)) hWf
end Go.Proofs.Ytnocbkhnmdmfhaa
