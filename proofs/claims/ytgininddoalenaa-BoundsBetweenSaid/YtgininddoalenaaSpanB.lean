/- codewrightref24: Span. -/
import Derived.Test.YtgininddoalenaaTabI
namespace Go.Proofs.Ytgininddoalenaa
open Go.RowKit

theorem disN_zero {f g : Nat → Int} {n : Nat} : disN f g n = 0 ↔ ∀ k, k < n → f k = g k := by
  induction n with
  | zero => exact ⟨fun _ k hk => by omega, fun _ => rfl⟩
  | succ n ih =>
    show disN f g n + (if f n = g n then 0 else 1) = 0 ↔ _
    constructor
    · intro h k hk
      by_cases e : f n = g n
      · by_cases e2 : k = n
        · rw [e2]; exact e
        · exact ih.1 (by rw [if_pos e] at h; omega) k (by omega)
      · rw [if_neg e] at h; omega
    · intro h
      rw [if_pos (h n (by omega)), ih.2 fun k hk => h k (by omega)]
theorem ModOk.on {w w' : World} {P M : Nat} {A : Option Addr} {m : Nat → Nat} (h : ModOk w P M A m) (hb : Below w.heap.size w w') : ModOk w' P M A m := by
  rcases h with h | ⟨h1, h2⟩
  · exact .inl h
  · exact .inr ⟨h1.on hb, h2⟩
theorem intRows_one {w : World} {g n : Nat} (hr : w.rowIs g 3 n (fun _ => .int .i64 0)) (hn : n ≤ 1048576) :
    IntRows (w.alloc (.cells #[.slice (some ⟨g, 0, none⟩) n n] 27)) (some ⟨w.heap.size, 0, none⟩) 1 (fun _ => n) (fun _ _ => ((0 : Nat) : Int)) := fun i hi => by
  obtain rfl : i = 0 := by omega
  have hb := below_one w (.cells #[.slice (some ⟨g, 0, none⟩) n n] 27)
  exact ⟨_, 0, _, n, rfl, by simp, World.cell?_alloc_at _ _ _ _ rfl, Nat.le_refl _, by unfold maxLen; omega, Rd_of_row (rowIs_on hr hb), fun j hj => by show -9223372036854775808 ≤ ((0 : Nat) : Int) ∧ ((0 : Nat) : Int) ≤ _; omega⟩
/-- The rows that come in. -/
def rowsN (q : Nat) (ln : Nat → Nat) (L : Nat → Nat → Int) (i : Nat) : Nat → Nat := rowN q (ln i) (L i)
/-- What Span leaves: no list, or the words that the rows generate. -/
def SpanPost (P M : Nat) (m : Nat → Nat) (n rn : Nat) (R : Nat → Nat → Nat) (most : Nat) (w : World) (e : Ending) (w' : World) : Prop :=
  ∃ O N c, e = .returned (.slice O N c) ∧ Below w.heap.size w w' ∧ (N = 0 ∨ ∃ W, N ≤ c ∧ c ≤ maxLen ∧ N ≤ most ∧ SpanR (P ^ M) (addF P M) (mulF P M m) n R rn N W ∧ IntRows w' O N (fun _ => n) (fun i k => (W i k : Nat)))

set_option maxRecDepth 100000 in
set_option maxHeartbeats 16000000 in
theorem span24_any (P M : Nat) (A : Option Addr) (k c : Nat) (m : Nat → Nat) (n : Nat) (T : Option Addr) (rn rc : Nat) (ln : Nat → Nat) (L : Nat → Nat → Int) (most : Nat) (w : World) (hF : FieldOk P M m) (hm : ModOk w P M A m) (hkM : M = 1 ∨ k = M) (hn : n ≤ 64) (hrows : IntRows w T rn ln L) (hrn : rn ≤ 1048576) (hmost1 : 1 ≤ most) (hmost2 : most ≤ 65536) :
    Calls Try.prog 21 #[.agg #[.int .i64 (P : Nat), .int .i64 (M : Nat), .slice A k c], .int .i64 (n : Nat), .slice T rn rc, .int .i64 (most : Nat)] w (SpanPost P M m n rn (rowsN (P ^ M) ln L) most w) := by
  have hLaw := fieldLaws hF
  have hf := hF.1
  have hP2 := hf.1
  have hP := hf.P_le
  have hM8 := hf.2.2.1
  have hq := hf.2.2.2
  have hq2 : 2 ≤ P ^ M := hLaw.two
  have HLAW := hid hLaw
  have HF := hid hF
  clear hLaw hF
  have hB : Below w.heap.size w (w.alloc (.cells #[.int .i64 (P : Nat), .int .i64 (M : Nat), .slice A k c] 29)) := (Below.refl _ _).alloc (Nat.le_refl _) _
  have rf := fldBox_row (w := w) (a := .int .i64 (P : Nat)) (b := .int .i64 (M : Nat)) (c := .slice A k c) (T := 29)
  obtain ⟨w0, hw0⟩ : ∃ W, W = w.alloc (.cells #[.int .i64 (P : Nat), .int .i64 (M : Nat), .slice A k c] 29) := ⟨_, rfl⟩
  rw [← hw0] at hB rf
  go_enter Try.func21, Try.ntmps21
  go_upto_region 1 with fail
  rw [← hw0]
  clear hw0
  have hw0 := rf.lt
  have hmk := fun W => run_makeI (P := Try.prog) 27 3 _ 8 Try.underlying27 Try.infoInt rfl (n : Int) (by omega) (by omega) (by omega) W
  simp only [Int.toNat_natCast] at hmk
  have HMK := hid hmk
  have row := World.rowIs_made w0 (.int .i64 0) n 3
  have kb : Below w0.heap.size w0 (w0.alloc (.cells (madeCells #[.int .i64 0] n) 3)) := (Below.refl _ _).alloc (Nat.le_refl _) _
  have hO := intRows_one row (by omega)
  have kb2 := below_one (w0.alloc (.cells (madeCells #[.int .i64 0] n) 3)) (.cells #[.slice (some ⟨w0.heap.size, 0, none⟩) n n] 27)
  go_wp2
  obtain ⟨w1, hw1⟩ : ∃ W, W = w0.alloc (.cells (madeCells #[.int .i64 0] n) 3) := ⟨_, rfl⟩
  rw [← hw1]
  rw [← hw1] at kb kb2 hO row
  obtain ⟨w2, hw2⟩ : ∃ W, W = w1.alloc (.cells #[.slice (some ⟨w0.heap.size, 0, none⟩) n n] 27) := ⟨_, rfl⟩
  rw [← hw2]
  rw [← hw2] at kb2 hO
  have hw1s : w1.heap.size = w0.heap.size + 1 := by rw [hw1]; simp
  try rw [← hw1s]
  replace rf := rowIs_on (rowIs_on rf kb) kb2
  replace hB := onS (onS hB kb) kb2
  clear kb kb2 hw1 hw2 row hmk hw0 hw1s
  have hS0 : SpanR (P ^ M) (addF P M) (mulF P M m) n (rowsN (P ^ M) ln L) 0 1 (fun _ _ => 0) := ⟨rfl, fun _ _ => rfl⟩
  go_loopg [9, 10, 11, 12, 13, 14, 15, 16] rn (fun gg ov iv _ _ _ _ _ _ wx => ∃ (i N : Nat) (O : Option Addr) (co : Nat) (W : Nat → Nat → Nat), iv = .int .i64 (i : Nat) ∧ ov = .slice O N co ∧ i ≤ rn ∧ rn ≤ i + gg ∧ N ≤ co ∧ co ≤ maxLen ∧ N ≤ most ∧ SpanR (P ^ M) (addF P M) (mulF P M m) n (rowsN (P ^ M) ln L) i N W ∧ IntRows wx O N (fun _ => n) (fun v t => (W v t : Nat)) ∧ wx.rowIs w.heap.size 29 3 (fldCell (.int .i64 (P : Nat)) (.int .i64 (M : Nat)) (.slice A k c)) ∧ Below w.heap.size w wx)
  case atStart => exact ⟨0, 1, _, _, _, rfl, rfl, by omega, by omega, by omega, by unfold maxLen; omega, by omega, hS0, hO, rf, hB⟩
  case round =>
    clear rf hB hO hS0
    obtain ⟨i, N, O, co, W, rfl, rfl, hi, hig, hNc, hcm, hNm, hS, hO, rf, hB⟩ := hrel
    have hi0 : (0 : Int) ≤ (i : Int) := by omega
    have HS1 := hid hS
    clear hS
    by_cases hlt : i < rn
    · have hlt' : (i : Int) < (rn : Int) := by omega
      obtain ⟨w2, hw2⟩ : ∃ W, W = wr := ⟨_, rfl⟩
      rw [← hw2] at rf hB hO ⊢
      clear hw2
      obtain ⟨tb, tof, LA, lc, rfl, htb, t1, _, _, hints, _⟩ := hrows i hlt
      go_upto_region 5 with fail
      have HS : Hid (∀ w' : World, w'.rowIs w.heap.size 29 3 (fldCell (.int .i64 (P : Nat)) (.int .i64 (M : Nat)) (.slice A k c)) → Below w.heap.size w w' → w'.cell? ⟨w.heap.size, 0, none⟩ = some (.int .i64 (P : Nat)) ∧ w'.cell? ⟨w.heap.size, 1, none⟩ = some (.int .i64 (M : Nat)) ∧ w'.cell? ⟨w.heap.size, 2, none⟩ = some (.slice A k c) ∧ w'.cell? ⟨tb, tof + i, none⟩ = some (.slice LA (ln i) lc)) := fun w' hf h0 => ⟨hf.cell (i := 0) (by omega), hf.cell (i := 1) (by omega), hf.cell (i := 2) (by omega), cellS h0 t1⟩
      refine wp_region_held_drew (S := fun w' => w'.cell? ⟨w.heap.size, 0, none⟩ = some (.int .i64 (P : Nat)) ∧ w'.cell? ⟨w.heap.size, 1, none⟩ = some (.int .i64 (M : Nat)) ∧ w'.cell? ⟨w.heap.size, 2, none⟩ = some (.slice A k c) ∧ w'.cell? ⟨tb, tof + i, none⟩ = some (.slice LA (ln i) lc)) (by kernel_rfl) (HS.out _ (show World.rowIs (World.drew _) _ _ _ _ from rf) (hB.drew)) (fun hHeld => ?_)
      obtain ⟨w3, hw⟩ : ∃ W, W = World.drew w2 := ⟨_, rfl⟩
      have kb : Below w2.heap.size w2 w3 := by rw [hw]; exact (Below.refl _ _).drew
      rw [← hw] at hHeld ⊢
      clear hw
      replace rf := rowIs_on rf kb
      replace hB := onS hB kb
      replace hO := hO.on kb
      clear kb
      refine wpAnyH_take (i := 0) (v := ?_) (by simp only [List.getElem?_toArray, List.getElem?_cons_zero]; rfl) (by kernel_rfl) (by kernel_rfl) (by kernel_rfl) (by exact fun _ _ _ h => h) (Or.inl ⟨by rfl, ?_⟩) (by assumption) ?_
      rotate_left
      · (intro w hSw; (try dsimp only at hSw); go_simp); first | done | with_reducible rfl
      try simp only [Act.put, List.setIfInBounds_toArray, List.set_cons_zero, List.set_cons_succ]
      refine wpAnyH_take (i := 1) (v := ?_) (by simp only [List.getElem?_toArray, List.getElem?_cons_succ, List.getElem?_cons_zero]; rfl) (by kernel_rfl) (by kernel_rfl) (by kernel_rfl) (by exact fun _ _ _ h => h) (Or.inl ⟨by rfl, ?_⟩) (by assumption) ?_
      rotate_left
      · (intro w hSw; (try dsimp only at hSw); go_simp); first | done | with_reducible rfl
      try simp only [Act.put, List.setIfInBounds_toArray, List.set_cons_zero, List.set_cons_succ]
      refine wpAnyH_take (i := 2) (v := ?_) (by simp only [List.getElem?_toArray, List.getElem?_cons_succ, List.getElem?_cons_zero]; rfl) (by kernel_rfl) (by kernel_rfl) (by kernel_rfl) (by exact fun _ _ _ h => h) (Or.inl ⟨by rfl, ?_⟩) (by assumption) ?_
      rotate_left
      · (intro w hSw; (try dsimp only at hSw); go_simp); first | done | with_reducible rfl
      try simp only [Act.put, List.setIfInBounds_toArray, List.set_cons_zero, List.set_cons_succ]
      refine wpAnyH_take (i := 3) (v := ?_) (by simp only [List.getElem?_toArray, List.getElem?_cons_succ, List.getElem?_cons_zero]; rfl) (by kernel_rfl) (by kernel_rfl) (by kernel_rfl) (by exact fun _ _ _ h => h) (Or.inl ⟨by rfl, ?_⟩) (by assumption) ?_
      rotate_left
      · (intro w hSw; (try dsimp only at hSw); go_simp); first | done | with_reducible rfl
      try simp only [Act.put, List.setIfInBounds_toArray, List.set_cons_zero, List.set_cons_succ]
      refine wpAnyH_take (i := 4) (v := ?_) (by simp only [List.getElem?_toArray, List.getElem?_cons_succ, List.getElem?_cons_zero]; rfl) (by kernel_rfl) (by kernel_rfl) (by kernel_rfl) (by exact fun _ _ _ h => h) (Or.inl ⟨by rfl, ?_⟩) (by assumption) ?_
      rotate_left
      · (intro w hSw; (try dsimp only at hSw); go_simp); first | done | with_reducible rfl
      try simp only [Act.put, List.setIfInBounds_toArray, List.set_cons_zero, List.set_cons_succ]
      refine wpAnyH_take (i := 5) (v := ?_) (by simp only [List.getElem?_toArray, List.getElem?_cons_succ, List.getElem?_cons_zero]; rfl) (by kernel_rfl) (by kernel_rfl) (by kernel_rfl) (by exact fun _ _ _ h => h) (Or.inl ⟨by rfl, ?_⟩) (by assumption) ?_
      rotate_left
      · (intro w hSw; (try dsimp only at hSw); go_simp); first | done | with_reducible rfl
      try simp only [Act.put, List.setIfInBounds_toArray, List.set_cons_zero, List.set_cons_succ]
      refine wpAnyH_ready (rs := [6]) (by kernel_rfl) (by simp) ?_
      refine AllReadyH.cons (by simp only [List.getElem?_toArray, List.getElem?_cons_succ, List.getElem?_cons_zero]; rfl) (fun K hK => ?_) AllReadyH.nil
      go_simp
      go_wp2_with fail
      refine (row24_any P M A k c n LA (ln i) lc (L i) _ hf hn (hints.on hB)).mono ?_
      rintro e w4 ⟨gr, rfl, hgr, rr, kb⟩
      replace rf := rowIs_on rf kb
      replace hB := onS hB kb
      replace hO := hO.on kb
      clear kb
      refine hK.out _ _ (HS.out _ rf hB) (fun hHeld => ?_)
      clear hK K
      try simp only [Act.put, List.setIfInBounds_toArray, List.set_cons_zero, List.set_cons_succ]
      refine wpAnyH_take (i := 7) (v := ?_) (by simp only [List.getElem?_toArray, List.getElem?_cons_succ, List.getElem?_cons_zero]; rfl) (by kernel_rfl) (by kernel_rfl) (by kernel_rfl) (by exact fun _ _ _ h => h) (Or.inl ⟨by rfl, ?_⟩) (by assumption) ?_
      rotate_left
      · (intro w hSw; (try dsimp only at hSw); go_simp); first | done | with_reducible rfl
      try simp only [Act.put, List.setIfInBounds_toArray, List.set_cons_zero, List.set_cons_succ]
      refine wpAnyH_done (by kernel_rfl) ?_ _
      clear hHeld
      clear HS hgr hints
      obtain ⟨RR, hRR⟩ : ∃ R, R = rowN (P ^ M) (ln i) (L i) := ⟨_, rfl⟩
      rw [← hRR] at rr
      have hRl : ∀ t, RR t < P ^ M := fun t => by rw [hRR]; exact rowN_lt (by omega) _ _
      have HRL := hid hRl
      have HRR : Hid (RR = rowsN (P ^ M) ln L i) := hRR
      clear hRR hRl
      have hWl : ∀ v, v < N → ∀ t, t < n → W v t < P ^ M := (SpanR.lt HLAW.out _ _ _ HS1.out).2
      have hN0 : 0 < N := (SpanR.lt HLAW.out _ _ _ HS1.out).1
      have HWL := hid hWl
      clear hWl
      go_wp2_with fail
      refine (has24_any O N co n (fun v t => (W v t : Nat)) (some ⟨gr, 0, none⟩) n (fun t => (RR t : Nat)) _ hO (Rd_of_row rr) (by omega) (by omega)).mono ?_
      rintro e w5 ⟨b, rfl, hb, kb⟩
      replace rf := rowIs_on rf kb
      replace hB := onS hB kb
      replace hO := hO.on kb
      replace rr := rowIs_on rr kb
      clear kb
      have hb2 : (∃ j, j < N ∧ disN (fun t => (W j t : Nat)) (fun t => (RR t : Nat)) n = 0) ↔ ∃ j, j < N ∧ ∀ t, t < n → W j t = RR t := by
        constructor
        · rintro ⟨j, hj, hd⟩
          exact ⟨j, hj, fun t ht => by have h2 : ((W j t : Nat) : Int) = (RR t : Nat) := disN_zero.1 hd t ht; omega⟩
        · rintro ⟨j, hj, hd⟩
          exact ⟨j, hj, disN_zero.2 fun t ht => by show ((W j t : Nat) : Int) = _; rw [hd t ht]⟩
      rw [hb2] at hb
      have HBB := hid hb
      clear hb hb2
      cases b
      · have hnew : Hid (∀ j, j < N → ∃ t, t < n ∧ W j t ≠ RR t) := fun j hj => by
          by_cases e : ∃ t, t < n ∧ W j t ≠ RR t
          · exact e
          · have := HBB.out.2 ⟨j, hj, fun t ht => by
              by_cases e2 : W j t = RR t
              · exact e2
              · exact absurd ⟨t, ht, e2⟩ e⟩
            cases this
        clear HBB
        have q0 : w5.cell? ⟨w.heap.size, 0, none⟩ = some (.int .i64 (P : Nat)) := rf.cell (i := 0) (by omega)
        have q1 : w5.cell? ⟨w.heap.size, 1, none⟩ = some (.int .i64 (M : Nat)) := rf.cell (i := 1) (by omega)
        have q2 : w5.cell? ⟨w.heap.size, 2, none⟩ = some (.slice A k c) := rf.cell (i := 2) (by omega)
        go_wp2_with fail
        refine (order_any (P : Int) (M : Int) A k c _).mono ?_
        rintro e w6 ⟨rfl, kb⟩
        replace rf := rowIs_on rf kb
        replace hB := onS hB kb
        replace hO := hO.on kb
        replace rr := rowIs_on rr kb
        clear kb
        clear q0 q1 q2
        rw [ordV_ok hf]
        obtain ⟨Q, hQ⟩ : ∃ Q, Q = P ^ M := ⟨_, rfl⟩
        rw [← hQ] at hq hq2
        rw [← hQ]
        have HQ := hid hQ
        clear hQ
        have hQi : (2 : Int) ≤ (Q : Int) := by omega
        have hQ0 : ¬ (Q : Int) = 0 := by omega
        have hdv : (most : Int) / (Q : Int) = ((most / Q : Nat) : Int) := by simp
        obtain ⟨Z, hZ⟩ : ∃ Z, Z = most / Q := ⟨_, rfl⟩
        rw [← hZ] at hdv
        have hZm : Z ≤ most := by rw [hZ]; exact Nat.div_le_self _ _
        have HZ := hid hZ
        clear hZ
        have hm0 : (0 : Int) ≤ (most : Int) := by omega
        have hm1 : (most : Int) ≤ 65536 := by omega
        have htd : (most : Int).tdiv (Q : Int) = (Z : Int) := by rw [Int.tdiv_eq_ediv_of_nonneg hm0, hdv]
        have hwz : IntKind.i64.wrap (Z : Int) = (Z : Int) := IntWalk.i64_in _ (by omega)
        have hQn : ¬ Q = 0 := by omega
        by_cases hbig : Z < N
        · have hbig' : (Z : Int) < (N : Int) := by omega
          go_wp2
          go_ret
          exact ⟨none, 0, 0, rfl, hB, .inl rfl⟩
        · have hbig' : ¬ (Z : Int) < (N : Int) := by omega
          have hQN : Q * N ≤ most := by
            have h1 : N ≤ most / Q := by rw [← HZ.out]; omega
            have h2 := (Nat.le_div_iff_mul_le (show 0 < Q by omega)).1 h1
            rw [Nat.mul_comm]; exact h2
          obtain ⟨w9, hw9⟩ : ∃ W, W = w6 := ⟨_, rfl⟩
          rw [← hw9] at rf hB hO rr ⊢
          clear hw9
          obtain ⟨WN, hWN⟩ : ∃ WN : Nat → Nat → Nat, WN = fun u t => addF P M (W (u % N) t) (mulF P M m (u / N) (RR t)) := ⟨_, rfl⟩
          have HWN := hid hWN
          clear hWN
          have hk0 : Below w9.heap.size w9 w9 := Below.refl _ _
          have hT : TabI w9 w9.heap.size (.slice none 0 0) 0 n WN := TabI.nil _ _ _ _
          go_wp2
          clear hdv htd hwz
          obtain ⟨gI, rfl⟩ : ∃ gK : Nat, gK = gk := ⟨_, rfl⟩
          go_loopg [12, 13, 14, 15, 16] Q (fun gg mv av _ _ _ wx => ∃ (a : Nat) (v : Value), v = mv ∧ av = .int .i64 (a : Nat) ∧ a ≤ Q ∧ Q ≤ a + gg ∧ TabI wx w9.heap.size v (a * N) n WN ∧ Below w9.heap.size w9 wx)
          case atStart => exact ⟨0, _, rfl, rfl, by omega, by omega, by rw [Nat.zero_mul]; exact hT, hk0⟩
          case round =>
            clear hT hk0
            obtain ⟨a, v, rfl, rfl, ha, hag, hT, hk⟩ := hrel
            have ha0 : (0 : Int) ≤ (a : Int) := by omega
            have rfx := rowIs_on rf hk
            have q0 : wr.cell? ⟨w.heap.size, 0, none⟩ = some (.int .i64 (P : Nat)) := rfx.cell (i := 0) (by omega)
            have q1 : wr.cell? ⟨w.heap.size, 1, none⟩ = some (.int .i64 (M : Nat)) := rfx.cell (i := 1) (by omega)
            have q2 : wr.cell? ⟨w.heap.size, 2, none⟩ = some (.slice A k c) := rfx.cell (i := 2) (by omega)
            go_wp2_with fail
            refine (order_any (P : Int) (M : Int) A k c _).mono ?_
            rintro e w3 ⟨rfl, kb⟩
            rw [ordV_ok hf, ← HQ.out]
            replace hT := hT.on kb
            replace hk := onS hk kb
            clear q0 q1 q2 rfx kb
            by_cases hla : a < Q
            · have hla' : (a : Int) < (Q : Int) := by omega
              go_wp2
              obtain ⟨gA, rfl⟩ : ∃ gK : Nat, gK = gk := ⟨_, rfl⟩
              go_loopg [12, 14, 15, 16] N (fun gg mv jv _ _ wx => ∃ (j : Nat) (v : Value), v = mv ∧ jv = .int .i64 (j : Nat) ∧ j ≤ N ∧ N ≤ j + gg ∧ TabI wx w9.heap.size v (a * N + j) n WN ∧ Below w9.heap.size w9 wx)
              case atStart => exact ⟨0, _, rfl, rfl, by omega, by omega, hT, hk⟩
              case round =>
                clear hT hk
                obtain ⟨j, v, rfl, rfl, hj, hjg, hT, hk⟩ := hrel
                have hj0 : (0 : Int) ≤ (j : Int) := by omega
                by_cases hlj : j < N
                · have hlj' : (j : Int) < (N : Int) := by omega
                  obtain ⟨wj, hwj⟩ : ∃ W, W = wr := ⟨_, rfl⟩
                  rw [← hwj] at hT hk ⊢
                  clear hwj
                  have hmk := HMK.out
                  have row := World.rowIs_made wj (.int .i64 0) n 3
                  have hB4 : Below wj.heap.size wj (wj.alloc (.cells (madeCells #[.int .i64 0] n) 3)) := (Below.refl _ _).alloc (Nat.le_refl _) _
                  go_wp2
                  obtain ⟨w4, hw4⟩ : ∃ W, W = wj.alloc (.cells (madeCells #[.int .i64 0] n) 3) := ⟨_, rfl⟩
                  rw [← hw4] at row hB4 ⊢
                  clear hw4 hmk
                  obtain ⟨gn, hgn⟩ : ∃ g, g = wj.heap.size := ⟨_, rfl⟩
                  rw [← hgn] at row ⊢
                  have hgB : wj.heap.size ≤ gn := by omega
                  have HGN := hid hgn
                  clear hgn
                  have hua : (a * N + j) / N = a := by rw [Nat.mul_comm, Nat.mul_add_div hN0, Nat.div_eq_of_lt hlj, Nat.add_zero]
                  have hum : (a * N + j) % N = j := by rw [Nat.mul_comm, Nat.mul_add_mod, Nat.mod_eq_of_lt hlj]
                  have hrowN : Hid (∀ t, addF P M (W j t) (mulF P M m a (RR t)) = WN (a * N + j) t) := fun t => by rw [HWN.out]; show _ = addF P M (W ((a * N + j) % N) t) (mulF P M m ((a * N + j) / N) (RR t)); rw [hua, hum]
                  clear hua hum
                  obtain ⟨gJ, rfl⟩ : ∃ gK : Nat, gK = gk := ⟨_, rfl⟩
                  go_loopg [16] n (fun gg tv wx => ∃ t : Nat, tv = .int .i64 (t : Nat) ∧ t ≤ n ∧ n ≤ t + gg ∧ wx.rowIs gn 3 n (fun s => .int .i64 (if s < t then (addF P M (W j s) (mulF P M m a (RR s)) : Nat) else 0 : Int)) ∧ Below wj.heap.size wj wx)
                  case atStart => exact ⟨0, rfl, by omega, by omega, row.congr fun s _ => rfl, hB4⟩
                  case round =>
                    clear row hB4
                    obtain ⟨t, rfl, ht, htg, row, hB4⟩ := hrel
                    have ht0 : (0 : Int) ≤ (t : Int) := by omega
                    by_cases hlt4 : t < n
                    · have hlt4' : (t : Int) < (n : Int) := by omega
                      obtain ⟨w5, hw5⟩ : ∃ W, W = wr := ⟨_, rfl⟩
                      rw [← hw5] at row hB4 ⊢
                      clear hw5
                      have hB9 := onS hB hk
                      have rfj := rowIs_on rf hk
                      have rrj := rowIs_on rr hk
                      obtain ⟨ob, oo, XA, xc, rfl, hob, x1, _, _, xints, _⟩ := hO.on hk j hlj
                      obtain ⟨xb, xo, rfl, hxb, x2⟩ := xints.at hlt4
                      replace x2 : wj.cell? ⟨xb, xo + t, none⟩ = some (.int .i64 (W j t : Nat)) := x2
                      have x3 := rrj.cell hlt4
                      have q0 : wj.cell? ⟨w.heap.size, 0, none⟩ = some (.int .i64 (P : Nat)) := rfj.cell (i := 0) (by omega)
                      have q1 : wj.cell? ⟨w.heap.size, 1, none⟩ = some (.int .i64 (M : Nat)) := rfj.cell (i := 1) (by omega)
                      have q2 : wj.cell? ⟨w.heap.size, 2, none⟩ = some (.slice A k c) := rfj.cell (i := 2) (by omega)
                      have hx := HWL.out j hlj t hlt4
                      have hy := HRL.out t
                      obtain ⟨X, hX⟩ : ∃ X, X = W j t := ⟨_, rfl⟩
                      obtain ⟨Y, hY⟩ : ∃ X, X = RR t := ⟨_, rfl⟩
                      rw [← hX] at x2 hx
                      rw [← hY] at x3 hy
                      have HX := hid hX
                      have HY := hid hY
                      clear hX hY
                      have HS : Hid (∀ w' : World, Below wj.heap.size wj w' → w'.cell? ⟨w.heap.size, 0, none⟩ = some (.int .i64 (P : Nat)) ∧ w'.cell? ⟨w.heap.size, 1, none⟩ = some (.int .i64 (M : Nat)) ∧ w'.cell? ⟨w.heap.size, 2, none⟩ = some (.slice A k c) ∧ w'.cell? ⟨ob, oo + j, none⟩ = some (.slice (some ⟨xb, xo, none⟩) n xc) ∧ w'.cell? ⟨xb, xo + t, none⟩ = some (.int .i64 (X : Nat)) ∧ w'.cell? ⟨gr, t, none⟩ = some (.int .i64 (Y : Nat))) := fun w' kb => ⟨cellS kb q0, cellS kb q1, cellS kb q2, cellS kb x1, cellS kb x2, cellS kb x3⟩
                      clear q0 q1 q2 x1 x2 x3 xints rfj rrj
                      go_upto_region 20 with fail
                      refine wp_region_held_drew (S := fun w' => w'.cell? ⟨w.heap.size, 0, none⟩ = some (.int .i64 (P : Nat)) ∧ w'.cell? ⟨w.heap.size, 1, none⟩ = some (.int .i64 (M : Nat)) ∧ w'.cell? ⟨w.heap.size, 2, none⟩ = some (.slice A k c) ∧ w'.cell? ⟨ob, oo + j, none⟩ = some (.slice (some ⟨xb, xo, none⟩) n xc) ∧ w'.cell? ⟨xb, xo + t, none⟩ = some (.int .i64 (X : Nat)) ∧ w'.cell? ⟨gr, t, none⟩ = some (.int .i64 (Y : Nat))) (by kernel_rfl) (HS.out _ hB4.drew) (fun hHeld => ?_)
                      obtain ⟨w6, hw⟩ : ∃ W, W = World.drew w5 := ⟨_, rfl⟩
                      have kb : Below w5.heap.size w5 w6 := by rw [hw]; exact (Below.refl _ _).drew
                      rw [← hw] at hHeld ⊢
                      clear hw
                      replace row := rowIs_on row kb
                      replace hB4 := onS hB4 kb
                      clear kb
                      refine wpAnyH_take (i := 0) (v := ?_) (by simp only [List.getElem?_toArray, List.getElem?_cons_zero]; rfl) (by kernel_rfl) (by kernel_rfl) (by kernel_rfl) (by exact fun _ _ _ h => h) (Or.inl ⟨by rfl, ?_⟩) (by assumption) ?_
                      rotate_left
                      · (intro w hSw; (try dsimp only at hSw); go_simp); first | done | with_reducible rfl
                      try simp only [Act.put, List.setIfInBounds_toArray, List.set_cons_zero, List.set_cons_succ]
                      refine wpAnyH_take (i := 1) (v := ?_) (by simp only [List.getElem?_toArray, List.getElem?_cons_succ, List.getElem?_cons_zero]; rfl) (by kernel_rfl) (by kernel_rfl) (by kernel_rfl) (by exact fun _ _ _ h => h) (Or.inl ⟨by rfl, ?_⟩) (by assumption) ?_
                      rotate_left
                      · (intro w hSw; (try dsimp only at hSw); go_simp); first | done | with_reducible rfl
                      try simp only [Act.put, List.setIfInBounds_toArray, List.set_cons_zero, List.set_cons_succ]
                      refine wpAnyH_take (i := 2) (v := ?_) (by simp only [List.getElem?_toArray, List.getElem?_cons_succ, List.getElem?_cons_zero]; rfl) (by kernel_rfl) (by kernel_rfl) (by kernel_rfl) (by exact fun _ _ _ h => h) (Or.inl ⟨by rfl, ?_⟩) (by assumption) ?_
                      rotate_left
                      · (intro w hSw; (try dsimp only at hSw); go_simp); first | done | with_reducible rfl
                      try simp only [Act.put, List.setIfInBounds_toArray, List.set_cons_zero, List.set_cons_succ]
                      refine wpAnyH_take (i := 3) (v := ?_) (by simp only [List.getElem?_toArray, List.getElem?_cons_succ, List.getElem?_cons_zero]; rfl) (by kernel_rfl) (by kernel_rfl) (by kernel_rfl) (by exact fun _ _ _ h => h) (Or.inl ⟨by rfl, ?_⟩) (by assumption) ?_
                      rotate_left
                      · (intro w hSw; (try dsimp only at hSw); go_simp); first | done | with_reducible rfl
                      try simp only [Act.put, List.setIfInBounds_toArray, List.set_cons_zero, List.set_cons_succ]
                      refine wpAnyH_take (i := 4) (v := ?_) (by simp only [List.getElem?_toArray, List.getElem?_cons_succ, List.getElem?_cons_zero]; rfl) (by kernel_rfl) (by kernel_rfl) (by kernel_rfl) (by exact fun _ _ _ h => h) (Or.inl ⟨by rfl, ?_⟩) (by assumption) ?_
                      rotate_left
                      · (intro w hSw; (try dsimp only at hSw); go_simp); first | done | with_reducible rfl
                      try simp only [Act.put, List.setIfInBounds_toArray, List.set_cons_zero, List.set_cons_succ]
                      refine wpAnyH_take (i := 5) (v := ?_) (by simp only [List.getElem?_toArray, List.getElem?_cons_succ, List.getElem?_cons_zero]; rfl) (by kernel_rfl) (by kernel_rfl) (by kernel_rfl) (by exact fun _ _ _ h => h) (Or.inl ⟨by rfl, ?_⟩) (by assumption) ?_
                      rotate_left
                      · (intro w hSw; (try dsimp only at hSw); go_simp); first | done | with_reducible rfl
                      try simp only [Act.put, List.setIfInBounds_toArray, List.set_cons_zero, List.set_cons_succ]
                      refine wpAnyH_take (i := 6) (v := ?_) (by simp only [List.getElem?_toArray, List.getElem?_cons_succ, List.getElem?_cons_zero]; rfl) (by kernel_rfl) (by kernel_rfl) (by kernel_rfl) (by exact fun _ _ _ h => h) (Or.inl ⟨by rfl, ?_⟩) (by assumption) ?_
                      rotate_left
                      · (intro w hSw; (try dsimp only at hSw); go_simp); first | done | with_reducible rfl
                      try simp only [Act.put, List.setIfInBounds_toArray, List.set_cons_zero, List.set_cons_succ]
                      refine wpAnyH_take (i := 7) (v := ?_) (by simp only [List.getElem?_toArray, List.getElem?_cons_succ, List.getElem?_cons_zero]; rfl) (by kernel_rfl) (by kernel_rfl) (by kernel_rfl) (by exact fun _ _ _ h => h) (Or.inl ⟨by rfl, ?_⟩) (by assumption) ?_
                      rotate_left
                      · (intro w hSw; (try dsimp only at hSw); go_simp); first | done | with_reducible rfl
                      try simp only [Act.put, List.setIfInBounds_toArray, List.set_cons_zero, List.set_cons_succ]
                      refine wpAnyH_take (i := 8) (v := ?_) (by simp only [List.getElem?_toArray, List.getElem?_cons_succ, List.getElem?_cons_zero]; rfl) (by kernel_rfl) (by kernel_rfl) (by kernel_rfl) (by exact fun _ _ _ h => h) (Or.inl ⟨by rfl, ?_⟩) (by assumption) ?_
                      rotate_left
                      · (intro w hSw; (try dsimp only at hSw); go_simp); first | done | with_reducible rfl
                      try simp only [Act.put, List.setIfInBounds_toArray, List.set_cons_zero, List.set_cons_succ]
                      refine wpAnyH_take (i := 9) (v := ?_) (by simp only [List.getElem?_toArray, List.getElem?_cons_succ, List.getElem?_cons_zero]; rfl) (by kernel_rfl) (by kernel_rfl) (by kernel_rfl) (by exact fun _ _ _ h => h) (Or.inl ⟨by rfl, ?_⟩) (by assumption) ?_
                      rotate_left
                      · (intro w hSw; (try dsimp only at hSw); go_simp); first | done | with_reducible rfl
                      try simp only [Act.put, List.setIfInBounds_toArray, List.set_cons_zero, List.set_cons_succ]
                      refine wpAnyH_take (i := 10) (v := ?_) (by simp only [List.getElem?_toArray, List.getElem?_cons_succ, List.getElem?_cons_zero]; rfl) (by kernel_rfl) (by kernel_rfl) (by kernel_rfl) (by exact fun _ _ _ h => h) (Or.inl ⟨by rfl, ?_⟩) (by assumption) ?_
                      rotate_left
                      · (intro w hSw; (try dsimp only at hSw); go_simp); first | done | with_reducible rfl
                      try simp only [Act.put, List.setIfInBounds_toArray, List.set_cons_zero, List.set_cons_succ]
                      refine wpAnyH_take (i := 11) (v := ?_) (by simp only [List.getElem?_toArray, List.getElem?_cons_succ, List.getElem?_cons_zero]; rfl) (by kernel_rfl) (by kernel_rfl) (by kernel_rfl) (by exact fun _ _ _ h => h) (Or.inl ⟨by rfl, ?_⟩) (by assumption) ?_
                      rotate_left
                      · (intro w hSw; (try dsimp only at hSw); go_simp); first | done | with_reducible rfl
                      try simp only [Act.put, List.setIfInBounds_toArray, List.set_cons_zero, List.set_cons_succ]
                      refine wpAnyH_take (i := 12) (v := ?_) (by simp only [List.getElem?_toArray, List.getElem?_cons_succ, List.getElem?_cons_zero]; rfl) (by kernel_rfl) (by kernel_rfl) (by kernel_rfl) (by exact fun _ _ _ h => h) (Or.inl ⟨by rfl, ?_⟩) (by assumption) ?_
                      rotate_left
                      · (intro w hSw; (try dsimp only at hSw); go_simp); first | done | with_reducible rfl
                      try simp only [Act.put, List.setIfInBounds_toArray, List.set_cons_zero, List.set_cons_succ]
                      refine wpAnyH_take (i := 13) (v := ?_) (by simp only [List.getElem?_toArray, List.getElem?_cons_succ, List.getElem?_cons_zero]; rfl) (by kernel_rfl) (by kernel_rfl) (by kernel_rfl) (by exact fun _ _ _ h => h) (Or.inl ⟨by rfl, ?_⟩) (by assumption) ?_
                      rotate_left
                      · (intro w hSw; (try dsimp only at hSw); go_simp); first | done | with_reducible rfl
                      try simp only [Act.put, List.setIfInBounds_toArray, List.set_cons_zero, List.set_cons_succ]
                      refine wpAnyH_take (i := 14) (v := ?_) (by simp only [List.getElem?_toArray, List.getElem?_cons_succ, List.getElem?_cons_zero]; rfl) (by kernel_rfl) (by kernel_rfl) (by kernel_rfl) (by exact fun _ _ _ h => h) (Or.inl ⟨by rfl, ?_⟩) (by assumption) ?_
                      rotate_left
                      · (intro w hSw; (try dsimp only at hSw); go_simp); first | done | with_reducible rfl
                      try simp only [Act.put, List.setIfInBounds_toArray, List.set_cons_zero, List.set_cons_succ]
                      refine wpAnyH_take (i := 15) (v := ?_) (by simp only [List.getElem?_toArray, List.getElem?_cons_succ, List.getElem?_cons_zero]; rfl) (by kernel_rfl) (by kernel_rfl) (by kernel_rfl) (by exact fun _ _ _ h => h) (Or.inl ⟨by rfl, ?_⟩) (by assumption) ?_
                      rotate_left
                      · (intro w hSw; (try dsimp only at hSw); go_simp); first | done | with_reducible rfl
                      try simp only [Act.put, List.setIfInBounds_toArray, List.set_cons_zero, List.set_cons_succ]
                      refine wpAnyH_ready (rs := [16]) (by kernel_rfl) (by simp) ?_
                      refine AllReadyH.cons (by simp only [List.getElem?_toArray, List.getElem?_cons_succ, List.getElem?_cons_zero]; rfl) (fun K hK => ?_) AllReadyH.nil
                      go_simp
                      go_wp2_with fail
                      refine (mul04_any P M A k c m (a : Int) (Y : Int) _ hf (hm.on (onS hB9 hB4)) hkM).mono ?_
                      rintro e w7 ⟨rfl, kb⟩
                      replace row := rowIs_on row kb
                      replace hB4 := onS hB4 kb
                      clear kb
                      rw [inV_nat (q := P ^ M) (x := a) (by rw [← HQ.out]; exact hla), inV_nat (q := P ^ M) (x := Y) hy]
                      have hml := mulF_lt (P := P) (M := M) (m := m) (by omega) a Y
                      refine hK.out _ _ (HS.out _ hB4) (fun hHeld => ?_)
                      clear hK K
                      try simp only [Act.put, List.setIfInBounds_toArray, List.set_cons_zero, List.set_cons_succ]
                      refine wpAnyH_ready (rs := [17]) (by kernel_rfl) (by simp) ?_
                      refine AllReadyH.cons (by simp only [List.getElem?_toArray, List.getElem?_cons_succ, List.getElem?_cons_zero]; rfl) (fun K hK => ?_) AllReadyH.nil
                      go_simp
                      go_wp2_with fail
                      refine (add04_any P M A k c (X : Int) (mulF P M m a Y : Nat) _ hf).mono ?_
                      rintro e w8 ⟨rfl, kb⟩
                      replace row := rowIs_on row kb
                      replace hB4 := onS hB4 kb
                      clear kb
                      rw [inV_nat (q := P ^ M) (x := X) hx, inV_nat (q := P ^ M) (x := mulF P M m a Y) hml]
                      refine hK.out _ _ (HS.out _ hB4) (fun hHeld => ?_)
                      clear hK K
                      try simp only [Act.put, List.setIfInBounds_toArray, List.set_cons_zero, List.set_cons_succ]
                      refine wpAnyH_take (i := 18) (v := ?_) (by simp only [List.getElem?_toArray, List.getElem?_cons_succ, List.getElem?_cons_zero]; rfl) (by kernel_rfl) (by kernel_rfl) (by kernel_rfl) (by exact fun _ _ _ h => h) (Or.inl ⟨by rfl, ?_⟩) (by assumption) ?_
                      rotate_left
                      · (intro w hSw; (try dsimp only at hSw); go_simp); first | done | with_reducible rfl
                      try simp only [Act.put, List.setIfInBounds_toArray, List.set_cons_zero, List.set_cons_succ]
                      refine wpAnyH_ready (rs := [19]) (by kernel_rfl) (by simp) ?_
                      refine AllReadyH.cons (by simp only [List.getElem?_toArray, List.getElem?_cons_succ, List.getElem?_cons_zero]; rfl) (fun K hK => ?_) AllReadyH.nil
                      have z0 := row.frozen t
                      have c0 := row.cell hlt4
                      go_simp
                      generalize hw3 : World.setCell _ _ _ = w9
                      have row' : w9.rowIs gn 3 n (fun s => .int .i64 (if s < t + 1 then (addF P M (W j s) (mulF P M m a (RR s)) : Nat) else 0 : Int)) := by
                        rw [← hw3]
                        refine (row.set t _).congr fun s hs => ?_
                        by_cases e : s = t
                        · rw [if_pos e, if_pos (by omega), e, HX.out, HY.out]
                        · rw [if_neg e]
                          by_cases e2 : s < t
                          · rw [if_pos e2, if_pos (by omega)]
                          · rw [if_neg e2, if_neg (by omega)]
                      have hB4' : Below wj.heap.size wj w9 := by rw [← hw3]; exact hB4.setCell hgB _
                      clear hw3 row hB4 z0 c0
                      have row := row'
                      have hB4 := hB4'
                      clear row' hB4'
                      refine hK.out _ _ (HS.out _ hB4) (fun hHeld => ?_)
                      clear hK K
                      try simp only [Act.put, List.setIfInBounds_toArray, List.set_cons_zero, List.set_cons_succ]
                      refine wpAnyH_done (by kernel_rfl) ?_ _
                      clear hHeld
                      clear HS
                      go_wp2
                      go_roundg (gk - 1)
                      case measure => omega
                      case rel => exact ⟨t + 1, by go_num, by omega, by omega, row, hB4⟩
                    · obtain rfl : t = n := by omega
                      have hlt4' : ¬ (t : Int) < (t : Int) := by omega
                      have hrow : wr.rowIs gn 3 t (fun s => .int .i64 (WN (a * N + j) s : Nat)) := row.congr fun s hs => by rw [if_pos hs, hrowN.out s]
                      have hT4 := hT.on hB4
                      have hsz := hk.size
                      have hsz4 := hB4.size
                      have hT5 := hT4.on (below_one wr (.cells #[.slice (some ⟨gn, 0, none⟩) t t] 27))
                      have hrow5 := rowIs_on hrow (below_one wr (.cells #[.slice (some ⟨gn, 0, none⟩) t t] 27))
                      have hcell : Hid ((wr.alloc (.cells #[.slice (some ⟨gn, 0, none⟩) t t] 27)).cell? ⟨wr.heap.size, 0, none⟩ = some (.slice (some ⟨gn, 0, none⟩) t t)) := World.cell?_alloc_at _ _ _ _ rfl
                      have hkk := (hk.trans (hB4.mono hsz)).alloc (by omega) (.cells #[.slice (some ⟨gn, 0, none⟩) t t] 27)
                      have hcnt : a * N + j ≤ 1048576 := by
                        have : (a + 1) * N ≤ Q * N := Nat.mul_le_mul_right N hla
                        rw [Nat.add_mul, Nat.one_mul] at this; omega
                      have hgn9 : w9.heap.size ≤ gn := by have := HGN.out; omega
                      have HT5 := hid hT5
                      have HR5 := hid hrow5
                      have HKK := hid hkk
                      clear hT5 hrow5 hkk hT4 hrow row hT hk hB4
                      go_wp2_with (first | (at_builtin; (refine wpList_append_row rfl (.tmp 81) (.tmp 83) rfl HT5.out rfl rfl hcell.out HR5.out (by simp; omega) hgn9 hcnt ?_); intro v' w6 hT6 hk6))
                      have hk7 := HKK.out.trans hk6
                      have hT7 : TabI w6 w9.heap.size v' (a * N + (j + 1)) t WN := hT6.congr fun i hi s hs => by
                        show (if i = a * N + j then WN (a * N + j) s else WN i s) = WN i s
                        split
                        · rename_i e
                          rw [e]
                        · rfl
                      clear hT6 hk6 HT5 HR5 HKK hcell
                      go_wp2
                      go_roundg (gJ - 1)
                      case measure => omega
                      case rel => exact ⟨j + 1, v', rfl, by go_num, by omega, by omega, hT7, hk7⟩
                · obtain rfl : j = N := by omega
                  have hlj' : ¬ (j : Int) < (j : Int) := by omega
                  have hT3 : TabI wr w9.heap.size v ((a + 1) * j) n WN := by rw [Nat.add_mul, Nat.one_mul]; exact hT
                  clear hT
                  go_wp2
                  go_roundg (gA - 1)
                  case measure => omega
                  case rel => exact ⟨a + 1, v, rfl, by go_num, by omega, by omega, hT3, hk⟩
            · obtain rfl : a = Q := by omega
              have hla' : ¬ (a : Int) < (a : Int) := by omega
              have hWNl : ∀ u, u < a * N → ∀ t, t < n → WN u t ≤ 1048576 := fun u _ t _ => by
                rw [HWN.out]
                have := addF_lt (P := P) (M := M) (by omega) (W (u % N) t) (mulF P M m (u / N) (RR t))
                rw [← HQ.out] at this
                show addF P M (W (u % N) t) (mulF P M m (u / N) (RR t)) ≤ _
                omega
              obtain ⟨O2, c2, rfl, h21, h22, hO2⟩ := hT.rows (by omega) hWNl
              have hnx : Hid (SpanR (P ^ M) (addF P M) (mulF P M m) n (rowsN (P ^ M) ln L) (i + 1) (a * N) WN) := .inr ⟨N, W, HS1.out, by rw [← HRR.out]; exact hnew.out, by rw [HQ.out], fun u hu t ht => by rw [HWN.out, ← HRR.out]⟩
              have rf3 := rowIs_on rf hk
              have hB3 := onS hB hk
              clear hT hWNl
              go_wp2
              go_roundg (gI - 1)
              case measure => omega
              case rel => exact ⟨i + 1, a * N, O2, c2, WN, by go_num, rfl, by omega, by omega, h21, h22, hQN, hnx.out, hO2, rf3, hB3⟩
      · have hnx : Hid (SpanR (P ^ M) (addF P M) (mulF P M m) n (rowsN (P ^ M) ln L) (i + 1) N W) := .inl ⟨HS1.out, by rw [← HRR.out]; exact HBB.out.1 rfl⟩
        go_wp2
        go_roundg (gk - 1)
        case measure => omega
        case rel => exact ⟨i + 1, N, O, co, W, by go_num, rfl, by omega, by omega, hNc, hcm, hNm, hnx.out, hO, rf, hB⟩
    · have hlt' : ¬ (i : Int) < (rn : Int) := by omega
      obtain rfl : i = rn := by omega
      go_wp2
      go_ret
      exact ⟨O, N, co, rfl, hB, .inr ⟨W, hNc, hcm, hNm, HS1.out, hO⟩⟩
end Go.Proofs.Ytgininddoalenaa
