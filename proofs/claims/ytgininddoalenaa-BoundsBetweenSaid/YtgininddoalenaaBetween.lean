/- BoundsBetween returns true. -/
import Derived.Test.YtgininddoalenaaGV
import Derived.Test.YtgininddoalenaaSpanC
import Derived.Test.YtgininddoalenaaBest
import Derived.Test.YtgininddoalenaaBinMath
namespace Go.Proofs.Ytgininddoalenaa
open Go.RowKit Go.ChangeShapes Go.WideShapes Go.ChangeAt

/-- Words of distance d are not more than the least bound. -/
theorem le_bndB {q n d M : Nat} {W : Nat → Nat → Nat} (hW : Words q n d M W) (hq : 2 ≤ q) (hn : 1 ≤ n) (hd : 1 ≤ d) (hdn : d ≤ n) (hM : 1 ≤ M) : M ≤ bndB q n d 4 := by
  have hV : ∀ k, ∀ y, bndV q n d k = some y → M ≤ y := fun k y hy => by
    match k with
    | 0 => injection hy with hy; rw [← hy]; exact hamming hW hd
    | 1 =>
      rw [bndV_1] at hy
      by_cases e : q * d ≤ (q - 1) * n
      · rw [if_pos e] at hy; cases hy
      · rw [if_neg e] at hy; injection hy with hy; rw [← hy]; exact plotkin hW hM (by omega)
    | 2 => injection hy with hy; rw [← hy]; exact elias_best hW hq hn hd _ (Nat.le_refl _)
    | k + 3 =>
      have hy' : (if q = 2 then some (johA n d) else none) = some y := hy
      by_cases e : q = 2
      · subst e
        rw [if_pos rfl] at hy'; injection hy' with hy'; rw [← hy']; exact johnson hW hd hdn
      · rw [if_neg e] at hy'; cases hy'
  have hmin : ∀ x (v : Option Nat), M ≤ x → (∀ y, v = some y → M ≤ y) → M ≤ minO x v := fun x v h1 h2 => by
    cases v with
    | none => exact h1
    | some y => have := h2 y rfl; simp only [minO]; split <;> omega
  have : ∀ k, M ≤ bndB q n d k := by
    intro k
    induction k with
    | zero => exact singleton hW hd hdn
    | succ k ih => exact hmin _ _ ih (hV k)
  exact this 4
theorem gv_between {q n d k : Nat} {add mul : Nat → Nat → Nat} (hL : FieldLaws q add mul) (hn : 1 ≤ n) (hd : 1 ≤ d) (hdn : d ≤ n) (hk : GilK q n (vol q (n - 1) (d - 1)) k) : q ^ k ≤ bndB q n d 4 := by
  have h2 := hL.two
  obtain ⟨h1, h3, _⟩ := hk
  have hpos : 1 ≤ q ^ k := Nat.pow_pos (by omega)
  rcases h3 with rfl | h3
  · exact le_bndB (W := fun _ _ => 0) (words_one (by omega)) h2 hn hd hdn (Nat.le_refl _)
  · obtain ⟨W, hW⟩ := varshamov hL h1 hd hn h3
    exact le_bndB hW h2 hn hd hdn hpos

set_option maxRecDepth 100000 in
set_option maxHeartbeats 16000000 in
theorem boundsBetween_any (P M : Int) (A : Option Addr) (k c : Nat) (f : Nat → Int) (n d : Int) (w : World) (hfr : IntsR w w.heap.size A k f) :
    Calls Try.prog 15 #[.agg #[.int .i64 P, .int .i64 M, .slice A k c], .int .i64 n, .int .i64 d] w fun e w' => e = .returned (.bool true) ∧ Below w.heap.size w w' := by
  have hB : Below w.heap.size w (w.alloc (.cells #[.int .i64 P, .int .i64 M, .slice A k c] 29)) := (Below.refl _ _).alloc (Nat.le_refl _) _
  have rf := fldBox_row (w := w) (a := .int .i64 P) (b := .int .i64 M) (c := .slice A k c) (T := 29)
  obtain ⟨w0, hw0⟩ : ∃ W, W = w.alloc (.cells #[.int .i64 P, .int .i64 M, .slice A k c] 29) := ⟨_, rfl⟩
  rw [← hw0] at hB rf
  go_enter Try.func15, Try.ntmps15
  go_upto_region 1 with fail
  rw [← hw0]
  clear hw0
  have q0 : w0.cell? ⟨w.heap.size, 0, none⟩ = some (.int .i64 P) := rf.cell (i := 0) (by omega)
  have q1 : w0.cell? ⟨w.heap.size, 1, none⟩ = some (.int .i64 M) := rf.cell (i := 1) (by omega)
  have q2 : w0.cell? ⟨w.heap.size, 2, none⟩ = some (.slice A k c) := rf.cell (i := 2) (by omega)
  go_wp2_with fail
  refine (check04_any P M A k c f _ (hfr.on hB)).mono ?_
  rintro e w1 ⟨v, rfl, hv, kb⟩
  replace rf := rowIs_on rf kb
  replace hB := onS hB kb
  clear kb q0 q1 q2
  rcases hv with ⟨rfl, hgood⟩ | ⟨rfl, _⟩
  · obtain ⟨P, M, rfl, rfl, hf, _⟩ := id hgood
    have hF := hgood.field.1
    have HLAW := hid (fieldLaws hF)
    clear hgood hF hfr
    obtain ⟨Q, hQ⟩ : ∃ Q, Q = P ^ M := ⟨_, rfl⟩
    have hQ256 : Q ≤ 256 := by rw [hQ]; exact hf.2.2.2
    rw [← hQ] at HLAW
    have hQ2 : 2 ≤ Q := HLAW.out.two
    have HQ := hid hQ
    clear hQ
    have q0 : w1.cell? ⟨w.heap.size, 0, none⟩ = some (.int .i64 (P : Nat)) := rf.cell (i := 0) (by omega)
    have q1 : w1.cell? ⟨w.heap.size, 1, none⟩ = some (.int .i64 (M : Nat)) := rf.cell (i := 1) (by omega)
    have q2 : w1.cell? ⟨w.heap.size, 2, none⟩ = some (.slice A k c) := rf.cell (i := 2) (by omega)
    go_wp2_with fail
    refine (order_any (P : Int) (M : Int) A k c _).mono ?_
    rintro e w2 ⟨rfl, kb⟩
    rw [ordV_ok hf, ← HQ.out]
    replace rf := rowIs_on rf kb
    replace hB := onS hB kb
    clear kb q0 q1 q2
    go_wp2_with fail
    refine (range_any (Q : Int) n d _).mono ?_
    rintro e w3 ⟨rfl, rfl⟩
    cases hr : rangeOk (Q : Int) n d
    · clear hr
      go_wp2
      go_ret
      exact ⟨rfl, hB⟩
    · have HR := hid hr
      have hrr : 2 ≤ (Q : Int) ∧ (Q : Int) ≤ 256 ∧ 1 ≤ n ∧ n ≤ 64 ∧ 1 ≤ d ∧ d ≤ n := by simpa [rangeOk] using hr
      clear hr
      obtain ⟨_, _, hn1, hn64, hd1, hdn⟩ := hrr
      obtain ⟨n, rfl⟩ := Int.eq_ofNat_of_zero_le (show 0 ≤ n by omega)
      obtain ⟨d, rfl⟩ := Int.eq_ofNat_of_zero_le (show 0 ≤ d by omega)
      have hn1' : 1 ≤ n := by omega
      have hn64' : n ≤ 64 := by omega
      have hd1' : 1 ≤ d := by omega
      have hdn' : d ≤ n := by omega
      have q0 : w2.cell? ⟨w.heap.size, 0, none⟩ = some (.int .i64 (P : Nat)) := rf.cell (i := 0) (by omega)
      have q1 : w2.cell? ⟨w.heap.size, 1, none⟩ = some (.int .i64 (M : Nat)) := rf.cell (i := 1) (by omega)
      have q2 : w2.cell? ⟨w.heap.size, 2, none⟩ = some (.slice A k c) := rf.cell (i := 2) (by omega)
      go_wp2_with fail
      refine (order_any (P : Int) (M : Int) A k c _).mono ?_
      rintro e w3 ⟨rfl, kb⟩
      rw [ordV_ok hf, ← HQ.out]
      replace rf := rowIs_on rf kb
      replace hB := onS hB kb
      clear kb q0 q1 q2
      go_wp2_with fail
      refine (gilbertOk_any Q n d _ ((out_any (Q : Int) (n : Int) (d : Int) _).mono fun e w' ⟨he, hw⟩ => ⟨by rw [he, HR.out]; rfl, hw⟩) hQ2 hQ256 hn1' hn64' hd1' hdn').mono ?_
      rintro e w4 ⟨⟨j, rfl, hj⟩, kb⟩
      replace rf := rowIs_on rf kb
      replace hB := onS hB kb
      clear kb
      have hle : Hid (Q ^ j ≤ bndB Q n d 4) := gv_between HLAW.out hn1' hd1' hdn' hj
      have hjn : j ≤ n := hj.1
      clear hj
      have q0 : w4.cell? ⟨w.heap.size, 0, none⟩ = some (.int .i64 (P : Nat)) := rf.cell (i := 0) (by omega)
      have q1 : w4.cell? ⟨w.heap.size, 1, none⟩ = some (.int .i64 (M : Nat)) := rf.cell (i := 1) (by omega)
      have q2 : w4.cell? ⟨w.heap.size, 2, none⟩ = some (.slice A k c) := rf.cell (i := 2) (by omega)
      go_wp2_with fail
      refine (order_any (P : Int) (M : Int) A k c _).mono ?_
      rintro e w5 ⟨rfl, kb⟩
      rw [ordV_ok hf, ← HQ.out]
      replace rf := rowIs_on rf kb
      replace hB := onS hB kb
      clear kb q0 q1 q2
      go_wp2_with fail
      refine (bestOk_any Q n d _ HR.out hQ2 hQ256 hn1' hn64' hd1' hdn').mono ?_
      rintro e w6 ⟨B, cb, rfl, b1, b2, b3, kb⟩
      replace rf := rowIs_on rf kb
      replace hB := onS hB kb
      clear kb
      have dlb : dl (bndB Q n d 4) ≤ 65 := Nat.le_trans (dl_mono (bndB_le Q n d 4)) (dl_sing (q := Q) hQ256 hn64' hd1' hdn')
      obtain ⟨X, hX⟩ : ∃ x, x = bndB Q n d 4 := ⟨_, rfl⟩
      rw [← hX] at b1 b3 dlb hle ⊢
      clear hX
      have hj0 : (0 : Int) ≤ (j : Int) := by omega
      have hj1 : ¬ (n : Int) < (j : Int) := by omega
      have hj2 : ¬ (j : Int) < 0 := by omega
      have q0 : w6.cell? ⟨w.heap.size, 0, none⟩ = some (.int .i64 (P : Nat)) := rf.cell (i := 0) (by omega)
      have q1 : w6.cell? ⟨w.heap.size, 1, none⟩ = some (.int .i64 (M : Nat)) := rf.cell (i := 1) (by omega)
      have q2 : w6.cell? ⟨w.heap.size, 2, none⟩ = some (.slice A k c) := rf.cell (i := 2) (by omega)
      go_wp2_with fail
      refine (order_any (P : Int) (M : Int) A k c _).mono ?_
      rintro e w7 ⟨rfl, kb⟩
      rw [ordV_ok hf, ← HQ.out]
      replace rf := rowIs_on rf kb
      replace hB := onS hB kb
      replace b3 := b3.on kb
      clear kb q0 q1 q2 rf
      have hQ0 : (0 : Int) ≤ (Q : Int) := by omega
      have hQi : (Q : Int) ≤ 256 := by omega
      go_wp2_with fail
      refine (refOf_any Q _ (by omega)).mono ?_
      rintro e w8 ⟨A2, c2, rfl, k1, k2, k3, kb⟩
      replace b3 := b3.on kb
      replace hB := onS hB kb
      clear kb
      have dlp : dl (Q ^ j) ≤ 65 := dl_power (by omega) (by omega)
      have dlq : dl Q ≤ 1 := dl_le (by omega)
      go_wp2_with fail
      refine (refPow_any A2 c2 Q j _ k3 k1 k2 (by omega) (by omega) (by omega)).mono ?_
      rintro e w9 ⟨A3, c3, rfl, m1, m2, m3, kb⟩
      replace b3 := b3.on kb
      replace hB := onS hB kb
      clear kb k3
      obtain ⟨Y, hY⟩ : ∃ x, x = Q ^ j := ⟨_, rfl⟩
      rw [← hY] at m1 m3 dlp hle ⊢
      clear hY
      have hcmp : Hid (cmpN Y X ≤ 0) := by
        have := hle.out
        show cmpN Y X ≤ 0
        unfold cmpN
        split
        · omega
        · split <;> omega
      go_wp2_with fail
      refine (refCmp_any A3 B c3 cb Y X _ m3 b3 (by omega) (by omega)).mono ?_
      rintro e w10 ⟨rfl, rfl⟩
      obtain ⟨v, hv⟩ : ∃ v, v = cmpN Y X := ⟨_, rfl⟩
      have hv0 : v ≤ 0 := by rw [hv]; exact hcmp.out
      rw [← hv]
      clear hv m3 b3
      go_wp2
      go_ret
      exact ⟨rfl, hB⟩
  · clear hfr
    go_wp2
    go_ret
    exact ⟨rfl, hB⟩
theorem boundsBetween_law {H : Type} {enc : TypeId × Value → H} {w : World} {n d : Int} {cs : Array Value}
    (h : Sees enc Try.prog w 0 (fun _ => true) true 29 cs.toList) (_hn : (Lit.int .i64 n).wf = true) (_hd : (Lit.int .i64 d).wf = true) :
    Calls Try.prog 15 #[.agg cs, .int .i64 n, .int .i64 d] w fun e w' => e = .returned (.bool true) ∧ Below w.heap.size w w' := by
  obtain ⟨cs⟩ := cs
  obtain ⟨P, M, A, k, c, f, rfl, _, _, hf⟩ := sees_field h
  exact boundsBetween_any P M A k c f n d w hf
end Go.Proofs.Ytgininddoalenaa
