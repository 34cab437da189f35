/- BoundsBalls returns true. -/
import Derived.Test.YtgininddoalenaaSpanC
import Derived.Test.YtgininddoalenaaVolumes
namespace Go.Proofs.Ytgininddoalenaa
open Go.RowKit Go.ChangeShapes Go.WideShapes Go.ChangeAt

/-- How many of the first k words are near. -/
def nearN (q n : Nat) (c : Nat → Nat) (r : Nat) : Nat → Nat
  | 0 => 0
  | k + 1 => nearN q n c r k + if disN (fun t => (dig q k t : Nat)) (fun t => (c t : Nat)) n ≤ r then 1 else 0
theorem nearN_le (q n : Nat) (c : Nat → Nat) (r k : Nat) : nearN q n c r k ≤ k := by
  induction k with
  | zero => exact Nat.le_refl _
  | succ k ih => unfold nearN; split <;> omega
theorem dis_nat (f g : Nat → Nat) (n : Nat) : dis n f g = (disN (fun t => (f t : Nat)) (fun t => (g t : Nat)) n : Int) := by
  induction n with
  | zero => rfl
  | succ n ih =>
    have e1 : dis (n + 1) f g = dis n f g + ind (f n ≠ g n) := rfl
    have e2 : disN (fun t => (f t : Nat)) (fun t => (g t : Nat)) (n + 1) = disN (fun t => (f t : Nat)) (fun t => (g t : Nat)) n + if ((f n : Nat) : Int) = ((g n : Nat) : Int) then 0 else 1 := rfl
    rw [e1, e2, ih]
    by_cases e : f n = g n
    · rw [if_pos (by rw [e]), ind_f (fun h => h e)]; omega
    · rw [if_neg (by omega), ind_t e]; omega
theorem nearN_vol {q n : Nat} {c : Nat → Nat} (hq : 0 < q) (hc : ∀ j, j < n → c j < q) (r : Nat) : nearN q n c r (q ^ n) = vol q n (r + 1) := by
  have h := ball_count hq hc r
  have h2 : ∀ k, ((nearN q n c r k : Nat) : Int) = sig k (fun v => ind (dis n (dig q v) c ≤ (r : Int))) := fun k => by
    induction k with
    | zero => rfl
    | succ k ih =>
      show ((nearN q n c r k + if disN (fun t => (dig q k t : Nat)) (fun t => (c t : Nat)) n ≤ r then 1 else 0 : Nat) : Int) = sig k _ + ind (dis n (dig q k) c ≤ (r : Int))
      rw [← ih, dis_nat]
      by_cases e : disN (fun t => (dig q k t : Nat)) (fun t => (c t : Nat)) n ≤ r
      · rw [if_pos e, ind_t (by omega)]; rfl
      · rw [if_neg e, ind_f (by omega)]; rfl
  have := h2 (q ^ n)
  omega

set_option maxRecDepth 100000 in
set_option maxHeartbeats 16000000 in
theorem boundsBalls_any (P M : Int) (A : Option Addr) (k c : Nat) (f : Nat → Int) (x : Nat) (r : Int) (LA : Option Addr) (kl cl : Nat) (L : Nat → Int) (w : World) (hfr : IntsR w w.heap.size A k f) (hx : x ≤ 255) (hl : IntsR w w.heap.size LA kl L) :
    Calls Try.prog 6 #[.agg #[.int .i64 P, .int .i64 M, .slice A k c], .int .u8 (x : Nat), .int .i64 r, .slice LA kl cl] w fun e w' => e = .returned (.bool true) ∧ Below w.heap.size w w' := by
  have hB : Below w.heap.size w (w.alloc (.cells #[.int .i64 P, .int .i64 M, .slice A k c] 29)) := (Below.refl _ _).alloc (Nat.le_refl _) _
  have rf := fldBox_row (w := w) (a := .int .i64 P) (b := .int .i64 M) (c := .slice A k c) (T := 29)
  obtain ⟨w0, hw0⟩ : ∃ W, W = w.alloc (.cells #[.int .i64 P, .int .i64 M, .slice A k c] 29) := ⟨_, rfl⟩
  rw [← hw0] at hB rf
  obtain ⟨n, hn⟩ : ∃ n, n = x % 10 + 1 := ⟨_, rfl⟩
  have hn1 : 1 ≤ n := by omega
  have hn10 : n ≤ 10 := by omega
  have hx0 : (0 : Int) ≤ (x : Int) := by omega
  have hx1 : (x : Int) ≤ 255 := by omega
  have hm10 : (x : Int) % 10 = (n : Int) - 1 := by omega
  have ht10 : (x : Int).tmod 10 = (n : Int) - 1 := by rw [Int.tmod_eq_emod_of_nonneg hx0, hm10]
  clear hn
  have hn0 : (1 : Int) ≤ (n : Int) := by omega
  have hnn : (n : Int) ≤ 10 := by omega
  go_enter Try.func6, Try.ntmps6
  go_upto_region 1 with fail
  rw [← hw0]
  clear hw0
  have q0 : w0.cell? ⟨w.heap.size, 0, none⟩ = some (.int .i64 P) := rf.cell (i := 0) (by omega)
  have q1 : w0.cell? ⟨w.heap.size, 1, none⟩ = some (.int .i64 M) := rf.cell (i := 1) (by omega)
  have q2 : w0.cell? ⟨w.heap.size, 2, none⟩ = some (.slice A k c) := rf.cell (i := 2) (by omega)
  go_wp2_with fail
  refine (check04_any P M A k c f _ (hfr.on hB)).mono ?_
  rintro e w1 ⟨v, rfl, hv, kb⟩
  replace rf := rowIs_on rf kb
  replace hB := onS hB kb
  clear kb q0 q1 q2 hm10 ht10
  try rw [show (n : Int) - 1 + 1 = (n : Int) by omega]
  rcases hv with ⟨rfl, hgood⟩ | ⟨rfl, _⟩
  · obtain ⟨P, M, rfl, rfl, hf, _⟩ := id hgood
    obtain ⟨hF, hkM⟩ := hgood.field
    have HGOOD := hid hgood
    have HF := hid hF
    clear hgood hF
    by_cases hr0 : r < 0
    · go_wp2
      go_ret
      exact ⟨rfl, hB⟩
    · have hr0' : ¬ r < 0 := hr0
      by_cases hr1 : (n : Int) < r
      · go_wp2
        go_ret
        exact ⟨rfl, hB⟩
      · obtain ⟨r, rfl⟩ := Int.eq_ofNat_of_zero_le (show 0 ≤ r by omega)
        have hrn : r ≤ n := by omega
        have hr1' : ¬ (n : Int) < (r : Int) := hr1
        have q0 : w1.cell? ⟨w.heap.size, 0, none⟩ = some (.int .i64 (P : Nat)) := rf.cell (i := 0) (by omega)
        have q1 : w1.cell? ⟨w.heap.size, 1, none⟩ = some (.int .i64 (M : Nat)) := rf.cell (i := 1) (by omega)
        have q2 : w1.cell? ⟨w.heap.size, 2, none⟩ = some (.slice A k c) := rf.cell (i := 2) (by omega)
        go_wp2_with fail
        refine (all24_any P M A k c (fun i => (f i).toNat) n 1024 _ HF.out (HGOOD.out.mod (hfr.on hB)) hkM (by omega) (by omega) (by omega)).mono ?_
        rintro e w2 ⟨O, N, co, rfl, kb, hN⟩
        replace rf := rowIs_on rf kb
        replace hB := onS hB kb
        clear kb q0 q1 q2
        clear hr0 hr1
        by_cases hN0 : N = 0
        · subst hN0
          go_wp2
          go_ret
          exact ⟨rfl, hB⟩
        · obtain ⟨hN6, hNq, hO⟩ := hN.resolve_left hN0
          have hN0' : ((N : Int) == 0) = false := by simp; omega
          have HNQ := hid hNq
          clear hNq
          have q0 : w2.cell? ⟨w.heap.size, 0, none⟩ = some (.int .i64 (P : Nat)) := rf.cell (i := 0) (by omega)
          have q1 : w2.cell? ⟨w.heap.size, 1, none⟩ = some (.int .i64 (M : Nat)) := rf.cell (i := 1) (by omega)
          have q2 : w2.cell? ⟨w.heap.size, 2, none⟩ = some (.slice A k c) := rf.cell (i := 2) (by omega)
          go_wp2_with fail
          refine (row24_any P M A k c n LA kl cl L _ hf (by omega) (hl.on hB)).mono ?_
          rintro e w3 ⟨gr, rfl, hgr, rr, kb⟩
          replace rf := rowIs_on rf kb
          replace hB := onS hB kb
          replace hO := hO.on kb
          clear kb q0 q1 q2 hgr
          have hq2 : 2 ≤ P ^ M := (fieldLaws HF.out).two
          obtain ⟨C, hC⟩ : ∃ C, C = rowN (P ^ M) kl L := ⟨_, rfl⟩
          rw [← hC] at rr
          have hCl : Hid (∀ t, t < n → C t < P ^ M) := fun t _ => by rw [hC]; exact rowN_lt (by omega) _ _
          clear hC
          obtain ⟨Q, hQ⟩ : ∃ Q, Q = P ^ M := ⟨_, rfl⟩
          have hQ256 : Q ≤ 256 := by rw [hQ]; exact hf.2.2.2
          rw [← hQ] at hq2 hO HNQ hCl
          have HQ := hid hQ
          clear hQ
          go_wp2
          clear hN0'
          go_loopg [12, 13] N (fun gg cv iv wx => ∃ i : Nat, iv = .int .i64 (i : Nat) ∧ cv = .int .i64 (nearN Q n C r i : Nat) ∧ i ≤ N ∧ N ≤ i + gg ∧ IntRows wx O N (fun _ => n) (fun v t => (dig Q v t : Nat)) ∧ wx.rowIs gr 3 n (fun t => .int .i64 (C t : Nat)) ∧ wx.rowIs w.heap.size 29 3 (fldCell (.int .i64 (P : Nat)) (.int .i64 (M : Nat)) (.slice A k c)) ∧ Below w.heap.size w wx)
          case atStart => exact ⟨0, rfl, rfl, by omega, by omega, hO, rr, rf, hB⟩
          case round =>
            clear hO rr rf hB
            obtain ⟨i, rfl, rfl, hi, hig, hO, rr, rf, hB⟩ := hrel
            have hi0 : (0 : Int) ≤ (i : Int) := by omega
            have hnl := nearN_le Q n C r i
            by_cases hlt : i < N
            · have hlt' : (i : Int) < (N : Int) := by omega
              obtain ⟨ob, oo, XA, xc, rfl, hob, x1, _, _, xints, _⟩ := hO i hlt
              have hnx : nearN Q n C r (i + 1) = nearN Q n C r i + if disN (fun t => (dig Q i t : Nat)) (fun t => (C t : Nat)) n ≤ r then 1 else 0 := rfl
              have hdl := disN_le (fun t => (dig Q i t : Nat)) (fun t => (C t : Nat)) n
              obtain ⟨S, hS⟩ : ∃ S, S = nearN Q n C r i := ⟨_, rfl⟩
              rw [← hS] at hnl hnx
              rw [← hS]
              clear hS
              go_wp2_with fail
              refine (distance_any XA (some ⟨gr, 0, none⟩) n xc n (fun t => (dig Q i t : Nat)) (fun t => (C t : Nat)) _ xints (Rd_of_row rr) (by omega)).mono ?_
              rintro e w4 ⟨rfl, kb⟩
              replace rf := rowIs_on rf kb
              replace rr := rowIs_on rr kb
              replace hB := onS hB kb
              replace hO := hO.on kb
              clear kb x1 xints
              obtain ⟨D, hD⟩ : ∃ D, D = disN (fun t => (dig Q i t : Nat)) (fun t => (C t : Nat)) n := ⟨_, rfl⟩
              rw [← hD] at hdl hnx
              rw [← hD]
              clear hD
              by_cases hDr : D ≤ r
              · have hDr' : (D : Int) ≤ (r : Int) := by omega
                rw [if_pos hDr] at hnx
                have HNX := hid hnx
                clear hnx
                go_wp2
                go_roundg (gk - 1)
                case measure => omega
                case rel => exact ⟨i + 1, by go_num, by rw [HNX.out]; go_num, by omega, by omega, hO, rr, rf, hB⟩
              · have hDr' : ¬ (D : Int) ≤ (r : Int) := by omega
                rw [if_neg hDr] at hnx
                have HNX := hid hnx
                clear hnx
                go_wp2
                go_roundg (gk - 1)
                case measure => omega
                case rel => exact ⟨i + 1, by go_num, by rw [HNX.out]; rfl, by omega, by omega, hO, rr, rf, hB⟩
            · obtain rfl : i = N := by omega
              have hlt' : ¬ (i : Int) < (i : Int) := by omega
              have hval : Hid (nearN Q n C r i = vol Q n (r + 1)) := by
                rw [HNQ.out]
                exact nearN_vol (by omega) hCl.out r
              clear hO rr
              obtain ⟨S, hS⟩ : ∃ S, S = nearN Q n C r i := ⟨_, rfl⟩
              rw [← hS] at hnl hval
              rw [← hS]
              clear hS
              have q0 : wr.cell? ⟨w.heap.size, 0, none⟩ = some (.int .i64 (P : Nat)) := rf.cell (i := 0) (by omega)
              have q1 : wr.cell? ⟨w.heap.size, 1, none⟩ = some (.int .i64 (M : Nat)) := rf.cell (i := 1) (by omega)
              have q2 : wr.cell? ⟨w.heap.size, 2, none⟩ = some (.slice A k c) := rf.cell (i := 2) (by omega)
              go_wp2_with fail
              refine (order_any (P : Int) (M : Int) A k c _).mono ?_
              rintro e w5 ⟨rfl, kb⟩
              rw [ordV_ok hf, ← HQ.out]
              replace hB := onS hB kb
              clear kb q0 q1 q2 rf
              go_wp2_with fail
              refine (volumeOk_any Q n r _ hq2 hQ256 (by omega) hrn).mono ?_
              rintro e w6 ⟨B1, c1, rfl, g1, g2, g3, kb⟩
              replace hB := onS hB kb
              clear kb
              rw [← hval.out] at g1 g3
              rw [← hval.out]
              have hdl1 : dl S ≤ 1 := dl_le (by omega)
              have hS0 : (0 : Int) ≤ (S : Int) := by omega
              have hS1 : (S : Int) ≤ 65536 := by omega
              go_wp2_with fail
              refine (refOf_any S _ (by omega)).mono ?_
              rintro e w7 ⟨B2, c2, rfl, k1, k2, k3, kb⟩
              replace g3 := g3.on kb
              replace hB := onS hB kb
              clear kb
              go_wp2_with fail
              refine (refSame_any B1 B2 c1 c2 S _ g3 k3 (by omega)).mono ?_
              rintro e w8 ⟨rfl, kb⟩
              replace hB := onS hB kb
              clear kb g3 k3
              go_wp2
              go_ret
              exact ⟨rfl, hB⟩
  · go_wp2
    go_ret
    exact ⟨rfl, hB⟩
theorem boundsBalls_law {H : Type} {enc : TypeId × Value → H} {w : World} {x r : Int} {cs : Array Value} {T : Option Addr} {kl cl : Nat}
    (h : Sees enc Try.prog w 0 (fun _ => true) true 29 cs.toList) (hx : (Lit.int .u8 x).wf = true) (_hr : (Lit.int .i64 r).wf = true) (hl : Sees enc Try.prog w 0 (fun _ => true) true 27 [.slice T kl cl]) :
    Calls Try.prog 6 #[.agg cs, .int .u8 x, .int .i64 r, .slice T kl cl] w fun e w' => e = .returned (.bool true) ∧ Below w.heap.size w w' := by
  obtain ⟨cs⟩ := cs
  obtain ⟨P, M, A, k, c, f, rfl, _, _, hf⟩ := sees_field h
  obtain ⟨T', kl', cl', L, e, _, _, hL, _⟩ := sees_ints Try.underlying27 Try.underlying3 (by kernel_rfl) hl
  simp only [List.cons.injEq, Value.slice.injEq, and_true] at e
  obtain ⟨rfl, rfl, rfl⟩ := e
  have hx2 : 0 ≤ x ∧ x ≤ 255 := by simpa [Lit.wf, IntKind.min, IntKind.max, IntKind.signed, IntKind.bits] using hx
  obtain ⟨x, rfl⟩ := Int.eq_ofNat_of_zero_le hx2.1
  exact boundsBalls_any P M A k c f x r T kl cl L w hf (by omega) hL
end Go.Proofs.Ytgininddoalenaa
