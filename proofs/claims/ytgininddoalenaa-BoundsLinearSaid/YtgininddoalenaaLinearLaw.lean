/- BoundsLinear returns true. -/
import Derived.Test.YtgininddoalenaaWts
namespace Go.Proofs.Ytgininddoalenaa
open Go.RowKit Go.ChangeShapes Go.WideShapes Go.ChangeAt

theorem wt_dis (f : Nat → Nat) (n : Nat) : wtN n f = (disN (fun t => (f t : Nat)) (fun _ => 0) n : Int) := by
  induction n with
  | zero => rfl
  | succ n ih =>
    have e1 : wtN (n + 1) f = wtN n f + ind (f n ≠ 0) := rfl
    have e2 : disN (fun t => (f t : Nat)) (fun _ => 0) (n + 1) = disN (fun t => (f t : Nat)) (fun _ => 0) n + if ((f n : Nat) : Int) = 0 then 0 else 1 := rfl
    rw [e1, e2, ih]
    by_cases e : f n = 0
    · rw [if_pos (by omega), ind_f (fun h => h e)]; omega
    · rw [if_neg (by omega), ind_t e]; omega
/-- Griesmer's bound for the words that Span returns. -/
theorem linear_bound {P M n i N d : Nat} {m : Nat → Nat} {R W : Nat → Nat → Nat} (hF : FieldOk P M m) (hR : ∀ i k, R i k < P ^ M) (hs : SpanR (P ^ M) (addF P M) (mulF P M m) n R i N W) (hN : 1 < N)
    (hd : LeastAt (wcnt n (fun v t => (W v t : Nat)) N) (n + 1) d) : ∃ s, N = (P ^ M) ^ s ∧ 1 ≤ s ∧ 1 ≤ d ∧ d ≤ n ∧ grN ((P ^ M : Nat) : Int) d s ≤ n := by
  obtain ⟨s, h1, h2, h3⟩ := SpanR.griesmer (fieldLaws hF) hR hs
  obtain ⟨v, hv, t, ht, hne⟩ := h2 hN
  have hw : ∀ v, (∃ t, t < n ∧ W v t ≠ 0) → 1 ≤ disN (fun t => (W v t : Nat)) (fun _ => 0) n := fun v ⟨t, ht, hne⟩ => by
    have : disN (fun t => (W v t : Nat)) (fun _ => 0) n ≠ 0 := fun h0 => by
      have := disN_zero.1 h0 t ht
      omega
    omega
  have hle := disN_le (fun t => (W v t : Nat)) (fun _ => 0) n
  have h4 := hw v ⟨t, ht, hne⟩
  have hd2 : 1 ≤ d ∧ d < n + 1 ∧ ∀ i, 1 ≤ i → i < d → wcnt n (fun v t => (W v t : Nat)) N i = 0 := by
    rcases hd with ⟨_, h0⟩ | ⟨g1, g2, _, g4⟩
    · exact absurd (h0 _ h4 (by omega)) (wcnt_pos.2 ⟨v, hv, rfl⟩)
    · exact ⟨g1, g2, g4⟩
  have hs1 : 1 ≤ s := by
    rcases Nat.eq_zero_or_pos s with e | e
    · rw [e] at h1; simp at h1; omega
    · exact e
  refine ⟨s, h1, hs1, hd2.1, by omega, h3 d (by omega) fun u hu hn => ?_⟩
  rw [wt_dis]
  have h5 := hw u hn
  rcases Nat.lt_or_ge (disN (fun t => (W u t : Nat)) (fun _ => 0) n) d with h6 | h6
  · exact absurd (hd2.2.2 _ h5 h6) (wcnt_pos.2 ⟨u, hu, rfl⟩)
  · omega

set_option maxRecDepth 100000 in
set_option maxHeartbeats 16000000 in
theorem boundsLinear_any (P M : Int) (A : Option Addr) (k c : Nat) (f : Nat → Int) (x : Nat) (T : Option Addr) (rn rc : Nat) (ln : Nat → Nat) (L : Nat → Nat → Int) (w : World) (hfr : IntsR w w.heap.size A k f) (hx : x ≤ 255) (hl : IntRows w T rn ln L) :
    Calls Try.prog 4 #[.agg #[.int .i64 P, .int .i64 M, .slice A k c], .int .u8 (x : Nat), .slice T rn rc] w fun e w' => e = .returned (.bool true) ∧ Below w.heap.size w w' := by
  have hB : Below w.heap.size w (w.alloc (.cells #[.int .i64 P, .int .i64 M, .slice A k c] 29)) := (Below.refl _ _).alloc (Nat.le_refl _) _
  have rf := fldBox_row (w := w) (a := .int .i64 P) (b := .int .i64 M) (c := .slice A k c) (T := 29)
  obtain ⟨w0, hw0⟩ : ∃ W, W = w.alloc (.cells #[.int .i64 P, .int .i64 M, .slice A k c] 29) := ⟨_, rfl⟩
  rw [← hw0] at hB rf
  obtain ⟨n, hn⟩ : ∃ n, n = x % 12 + 1 := ⟨_, rfl⟩
  have hn1 : 1 ≤ n := by omega
  have hn12 : n ≤ 12 := by omega
  have hx0 : (0 : Int) ≤ (x : Int) := by omega
  have hx1 : (x : Int) ≤ 255 := by omega
  have hm10 : (x : Int) % 12 = (n : Int) - 1 := by omega
  have ht10 : (x : Int).tmod 12 = (n : Int) - 1 := by rw [Int.tmod_eq_emod_of_nonneg hx0, hm10]
  clear hn
  have hn0 : (1 : Int) ≤ (n : Int) := by omega
  have hnn : (n : Int) ≤ 12 := by omega
  go_enter Try.func4, Try.ntmps4
  go_upto_region 1 with fail
  rw [← hw0]
  clear hw0
  have q0 : w0.cell? ⟨w.heap.size, 0, none⟩ = some (.int .i64 P) := rf.cell (i := 0) (by omega)
  have q1 : w0.cell? ⟨w.heap.size, 1, none⟩ = some (.int .i64 M) := rf.cell (i := 1) (by omega)
  have q2 : w0.cell? ⟨w.heap.size, 2, none⟩ = some (.slice A k c) := rf.cell (i := 2) (by omega)
  go_wp2_with fail
  refine (check04_any P M A k c f _ (hfr.on hB)).mono ?_
  rintro e w1 ⟨v, rfl, hv, kb⟩
  replace rf := rowIs_on rf kb
  replace hB := onS hB kb
  clear kb q0 q1 q2 hm10 ht10
  try rw [show (n : Int) - 1 + 1 = (n : Int) by omega]
  rcases hv with ⟨rfl, hgood⟩ | ⟨rfl, _⟩
  · obtain ⟨P, M, rfl, rfl, hf, _⟩ := id hgood
    obtain ⟨hF, hkM⟩ := hgood.field
    have HGOOD := hid hgood
    have HF := hid hF
    clear hgood hF
    by_cases hr : 12 < rn
    · have hr' : (12 : Int) < (rn : Int) := by omega
      go_wp2
      go_ret
      exact ⟨rfl, hB⟩
    · have hr' : ¬ (12 : Int) < (rn : Int) := by omega
      have q0 : w1.cell? ⟨w.heap.size, 0, none⟩ = some (.int .i64 (P : Nat)) := rf.cell (i := 0) (by omega)
      have q1 : w1.cell? ⟨w.heap.size, 1, none⟩ = some (.int .i64 (M : Nat)) := rf.cell (i := 1) (by omega)
      have q2 : w1.cell? ⟨w.heap.size, 2, none⟩ = some (.slice A k c) := rf.cell (i := 2) (by omega)
      go_wp2_with fail
      refine (span24_any P M A k c (fun i => (f i).toNat) n T rn rc ln L 4096 _ HF.out (HGOOD.out.mod (hfr.on hB)) hkM (by omega) (hl.on hB) (by omega) (by omega) (by omega)).mono ?_
      rintro e w2 ⟨O, N, co, rfl, kb, hN⟩
      replace rf := rowIs_on rf kb
      replace hB := onS hB kb
      clear kb q0 q1 q2
      by_cases hN2 : N < 2
      · have hN2' : (N : Int) < 2 := by omega
        go_wp2
        go_ret
        exact ⟨rfl, hB⟩
      · have hN2' : ¬ (N : Int) < 2 := by omega
        obtain ⟨W, hNc, hcm, hN6, hspan, hO⟩ := hN.resolve_left (by omega)
        have hRl : ∀ i t, rowsN (P ^ M) ln L i t < P ^ M := fun i t => rowN_lt (Nat.pow_pos (by have := hf.1; omega)) _ _
        have hlin := fun d => linear_bound (d := d) HF.out hRl hspan (by omega)
        have HLIN := hid hlin
        obtain ⟨s, hNs⟩ : ∃ s, N = (P ^ M) ^ s := by
          obtain ⟨s, h1, _⟩ := SpanR.griesmer (fieldLaws HF.out) hRl hspan
          exact ⟨s, h1⟩
        have hq2 : 2 ≤ P ^ M := (fieldLaws HF.out).two
        clear hlin hRl hspan
        obtain ⟨Q, hQ⟩ : ∃ Q, Q = P ^ M := ⟨_, rfl⟩
        have hQ256 : Q ≤ 256 := by rw [hQ]; exact hf.2.2.2
        rw [← hQ] at hq2 HLIN hNs
        have HQ := hid hQ
        clear hQ
        have hs12 : s ≤ 12 := by
          rcases Nat.lt_or_ge 12 s with h | h
          · have h1 : 2 ^ s ≤ Q ^ s := Nat.pow_le_pow_left hq2 s
            have h2 : 2 ^ 13 ≤ 2 ^ s := Nat.pow_le_pow_right (by omega) h
            omega
          · exact h
        have HNS := hid hNs
        clear hNs
        go_wp2
        go_loopg [9, 10] (s + 1) (fun gg kv sv wx => ∃ j : Nat, kv = .int .i64 (j : Nat) ∧ sv = .int .i64 (Q ^ j : Nat) ∧ j ≤ s ∧ s + 1 ≤ j + gg ∧ wx.rowIs w.heap.size 29 3 (fldCell (.int .i64 (P : Nat)) (.int .i64 (M : Nat)) (.slice A k c)) ∧ IntRows wx O N (fun _ => n) (fun v t => (W v t : Nat)) ∧ Below w.heap.size w wx)
        case atStart => exact ⟨0, rfl, rfl, by omega, by omega, rf, hO, hB⟩
        case round =>
          clear rf hO hB
          obtain ⟨j, rfl, rfl, hj, hjg, rf, hO, hB⟩ := hrel
          have hjn : Q ^ j < N ↔ j < s := by
            rw [HNS.out]
            exact ⟨fun h => by
              rcases Nat.lt_or_ge j s with e | e
              · exact e
              · have := Nat.pow_le_pow_right (show 0 < Q by omega) e
                omega, fun h => Nat.pow_lt_pow_right (by omega) h⟩
          have hpq : Q ^ j * Q = Q ^ (j + 1) := (Nat.pow_succ Q j).symm
          have hpl : Q ^ j ≤ N := by rw [HNS.out]; exact Nat.pow_le_pow_right (by omega) hj
          obtain ⟨Z, hZ⟩ : ∃ Z, Z = Q ^ j := ⟨_, rfl⟩
          rw [← hZ] at hjn hpq hpl
          rw [← hZ]
          clear hZ
          have q0 : wr.cell? ⟨w.heap.size, 0, none⟩ = some (.int .i64 (P : Nat)) := rf.cell (i := 0) (by omega)
          have q1 : wr.cell? ⟨w.heap.size, 1, none⟩ = some (.int .i64 (M : Nat)) := rf.cell (i := 1) (by omega)
          have q2 : wr.cell? ⟨w.heap.size, 2, none⟩ = some (.slice A k c) := rf.cell (i := 2) (by omega)
          by_cases hlt : j < s
          · have hlt' : (Z : Int) < (N : Int) := by have := hjn.2 hlt; omega
            have HPQ := hid hpq
            clear hpq hjn
            go_wp2_with fail
            refine (order_any (P : Int) (M : Int) A k c _).mono ?_
            rintro e w3 ⟨rfl, kb⟩
            rw [ordV_ok hf, ← HQ.out]
            replace rf := rowIs_on rf kb
            replace hB := onS hB kb
            replace hO := hO.on kb
            clear kb q0 q1 q2
            have hZQ : Z * Q ≤ 4096 * 256 := Nat.mul_le_mul (by omega) hQ256
            have hmul : (Z : Int) * (Q : Int) = ((Z * Q : Nat) : Int) := by simp
            obtain ⟨Y, hY⟩ : ∃ Y, Y = Z * Q := ⟨_, rfl⟩
            rw [← hY] at hZQ hmul
            have HY := hid hY
            clear hY
            have hwm : IntKind.i64.wrap ((Z : Int) * (Q : Int)) = (Y : Int) := by rw [hmul]; exact IntWalk.i64_in _ (by omega)
            have hwj : IntKind.i64.wrap ((j : Int) + 1) = (j : Int) + 1 := IntWalk.i64_in _ (by omega)
            have hwy : IntKind.i64.wrap (Y : Int) = (Y : Int) := IntWalk.i64_in _ (by omega)
            go_wp2
            clear hwm hwj hwy hmul
            go_roundg (gk - 1)
            case measure => omega
            case rel => exact ⟨j + 1, by go_num, by rw [← HPQ.out, ← HY.out], by omega, by omega, rf, hO, hB⟩
          · obtain rfl : j = s := by omega
            have hlt' : ¬ (Z : Int) < (N : Int) := by have := fun h => hlt (hjn.1 h); omega
            clear hjn hpq q0 q1 q2
            go_wp2_with fail
            refine (weights24_any n O N co (fun v t => (W v t : Nat)) _ hO (by omega) (by omega)).mono ?_
            rintro e w4 ⟨A2, c2, rfl, g1, g2, htab, kb⟩
            replace rf := rowIs_on rf kb
            replace hB := onS hB kb
            clear kb hO
            have hdlx : Hid (∀ i, i < n + 1 → dl (wcnt n (fun v t => (W v t : Nat)) N i) ≤ 1024) := fun i _ => by
              have := wcnt_le n (fun v t => (W v t : Nat)) N i
              have : dl (wcnt n (fun v t => (W v t : Nat)) N i) ≤ 1 := dl_le (by omega)
              omega
            go_wp2_with fail
            refine (least24_any A2 (n + 1) c2 _ _ htab (by omega) hdlx).mono ?_
            rintro e w5 ⟨d, rfl, hd, kb⟩
            replace rf := rowIs_on rf kb
            replace hB := onS hB kb
            clear kb htab hdlx
            obtain ⟨s2, e1, e2, e3, e4, e5⟩ := HLIN.out d hd
            obtain rfl : s2 = j := by
              have := HNS.out
              rw [e1] at this
              exact (Nat.pow_right_inj (by omega)).1 this
            clear hd HLIN HNS e1
            have q0 : w5.cell? ⟨w.heap.size, 0, none⟩ = some (.int .i64 (P : Nat)) := rf.cell (i := 0) (by omega)
            have q1 : w5.cell? ⟨w.heap.size, 1, none⟩ = some (.int .i64 (M : Nat)) := rf.cell (i := 1) (by omega)
            have q2 : w5.cell? ⟨w.heap.size, 2, none⟩ = some (.slice A k c) := rf.cell (i := 2) (by omega)
            go_wp2_with fail
            refine (order_any (P : Int) (M : Int) A k c _).mono ?_
            rintro e w6 ⟨rfl, kb⟩
            rw [ordV_ok hf, ← HQ.out]
            replace hB := onS hB kb
            clear kb q0 q1 q2 rf
            have hgd : (d : Int) ≤ grN (Q : Int) (d : Int) s2 := by
              obtain ⟨s3, rfl⟩ : ∃ s3, s2 = s3 + 1 := ⟨s2 - 1, by omega⟩
              rw [grN_head]
              have := (grN_bd (q := (Q : Int)) (d := ((d : Int) + Q - 1) / Q) (by omega) ((Int.le_ediv_iff_mul_le (by omega)).2 (by omega)) (by
                have : ((d : Int) + Q - 1) / Q ≤ (d : Int) + Q - 1 := Int.ediv_le_self _ (by omega)
                omega) s3).1
              omega
            go_wp2_with fail
            refine (griesmer_ok (Q : Int) (s2 : Int) (d : Int) _ (by unfold grOut; omega)).mono ?_
            rintro e w7 ⟨rfl, rfl⟩
            rw [Int.toNat_natCast]
            obtain ⟨G, hG⟩ : ∃ G, G = grN (Q : Int) (d : Int) s2 := ⟨_, rfl⟩
            rw [← hG] at e5 hgd
            rw [← hG]
            clear hG
            go_wp2
            go_ret
            exact ⟨rfl, hB⟩
  · go_wp2
    go_ret
    exact ⟨rfl, hB⟩
theorem boundsLinear_law {H : Type} {enc : TypeId × Value → H} {w : World} {x : Int} {cs : Array Value} {T : Option Addr} {kl cl : Nat}
    (h : Sees enc Try.prog w 0 (fun _ => true) true 29 cs.toList) (hx : (Lit.int .u8 x).wf = true) (hl : Sees enc Try.prog w 0 (fun _ => true) true 30 [.slice T kl cl]) :
    Calls Try.prog 4 #[.agg cs, .int .u8 x, .slice T kl cl] w fun e w' => e = .returned (.bool true) ∧ Below w.heap.size w w' := by
  obtain ⟨cs⟩ := cs
  obtain ⟨P, M, A, k, c, f, rfl, _, _, hf⟩ := sees_field h
  obtain ⟨S, n, d', ln, W, e, h1, h2, h3⟩ := sees_rows hl
  simp only [List.cons.injEq, Value.slice.injEq, and_true] at e
  obtain ⟨rfl, rfl, rfl⟩ := e
  have hx2 : 0 ≤ x ∧ x ≤ 255 := by simpa [Lit.wf, IntKind.min, IntKind.max, IntKind.signed, IntKind.bits] using hx
  obtain ⟨x, rfl⟩ := Int.eq_ofNat_of_zero_le hx2.1
  exact boundsLinear_any P M A k c f x T kl cl ln W w hf (by omega) h3
end Go.Proofs.Ytgininddoalenaa
