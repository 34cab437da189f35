/- codewrightref55.Mul. -/
import Derived.Test.YtlfmnaepcndhiaaPMul
namespace Go.Proofs.Ytlfmnaepcndhiaa
open Go.RowKit

set_option maxRecDepth 100000 in
set_option maxHeartbeats 16000000 in
theorem refPMul_any (T T' : Option Addr) (m c m' c' N K : Nat) (a b : Nat → Rat) (w : World) (h : RatTab w w.heap.size T m a N) (h' : RatTab w w.heap.size T' m' b N) (hm : m ≤ 524288) (hm' : m' ≤ 524288) (hK : m * (N + N + 1) ≤ K) (hKN : K + N + N + 5 ≤ 33554432) (hra : Hid (∀ k, k < m → rsz (a k) N)) (hrb : Hid (∀ k, k < m' → rsz (b k) N)) :
    Calls Try.prog 16 #[.slice T m c, .slice T' m' c'] w (PolyPost (clen (mulP a m b m') (m + m')) (mulP a m b m') w) := by
  obtain ⟨NN, hNN⟩ : ∃ n, n = K + N + N + 5 := ⟨_, rfl⟩
  have hn1 : NN ≤ 33554432 := by omega
  have hn2 : K + N + N + 5 ≤ NN := by omega
  clear hNN
  replace h := h.mono (show N ≤ NN by omega)
  replace h' := h'.mono (show N ≤ NN by omega)
  have hSO : Hid (∀ i, i ≤ m → ∀ p, rsz (outP a b m' i p) (K + 1)) := fun i hi p => (rsz_outP hra.out hrb.out i hi p).mono (by have : i * (N + N + 1) ≤ m * (N + N + 1) := Nat.mul_le_mul_right _ hi; omega)
  have hSI : Hid (∀ i, i < m → ∀ j, j ≤ m' → ∀ p, rsz (inP a b i (outP a b m' i) j p) (K + 1 + (N + N) + 1)) := fun i hi j hj p => rsz_inP hra.out hrb.out hi (hSO.out i (by omega)) j hj p
  have hwr1 : IntKind.i64.wrap ((m : Int) + (m' : Int)) = ((m + m' : Nat) : Int) := by rw [IntWalk.i64_in _ (by omega)]; omega
  have hwr2 : (m : Int) + (m' : Int) = ((m + m' : Nat) : Int) := by omega
  obtain ⟨M, hM⟩ : ∃ M, M = m + m' := ⟨_, rfl⟩
  rw [← hM] at hwr1 hwr2 ⊢
  have hMle : M ≤ 1048576 := by omega
  have hM1 : m + m' ≤ M := by omega
  have HM := hid hM
  clear hM
  have hmk := fun W => run_makeRat M hMle W
  have kb1 := below_one w (.cells (madeCells #[.bool false, .slice none 0 0, .slice none 0 0] (M * 3)) 32)
  have row := rowOk_made w M (fun _ => 0)
  have hB := kb1
  clear kb1
  have hm0 : (0 : Int) ≤ (m : Int) := by omega
  have hm0' : (0 : Int) ≤ (m' : Int) := by omega
  go_enter Try.func16, Try.ntmps16
  go_wp2
  obtain ⟨w1, hw1⟩ : ∃ W, W = w.alloc (.cells (madeCells #[.bool false, .slice none 0 0, .slice none 0 0] (M * 3)) 32) := ⟨_, rfl⟩
  obtain ⟨g, hg⟩ : ∃ g, g = w.heap.size := ⟨_, rfl⟩
  rw [← hw1, ← hg]
  rw [← hw1] at hB row
  rw [← hg] at row
  have hgB : w.heap.size ≤ g := by omega
  clear hw1 hg hmk hwr2 hwr1
  go_loopg [6] M (fun gg iv wx => ∃ j : Nat, iv = .int .i64 (j : Nat) ∧ j ≤ M ∧ M ≤ j + gg ∧ RowOk wx g M j (fun _ => 0) ∧ Below w.heap.size w wx)
  case atStart => exact ⟨0, rfl, by omega, by omega, row, hB⟩
  case round =>
    clear row hB
    obtain ⟨j, rfl, hj, hjg, row, hB⟩ := hrel
    have hj0 : (0 : Int) ≤ (j : Int) := by omega
    by_cases hlt : j < M
    · have hlt' : (j : Int) < (M : Int) := by omega
      obtain ⟨w0, hw0⟩ : ∃ W, W = wr := ⟨_, rfl⟩
      rw [← hw0] at row hB ⊢
      clear hw0
      obtain ⟨S, hSe⟩ : ∃ S : Nat → Rat, S = fun _ => 0 := ⟨_, rfl⟩
      rw [← hSe] at row
      have HSE := hid hSe
      clear hSe
      go_wp2_with fail
      refine (refInt_any 0 _ (by omega) (by omega)).mono ?_
      rintro e w1 ⟨Ap, cp, Bp, dp, rfl, mp1, mp2, mp3, mp4, mp5, mp6, kb⟩
      replace row := row.on kb
      replace hB := onS hB kb
      clear kb
      obtain ⟨q0, hq0⟩ : ∃ q : Rat, q = ((0 : Int) : Rat) := ⟨_, rfl⟩
      rw [← hq0] at mp1 mp2 mp3 mp5 ⊢
      replace hq0 : q0 = 0 := hq0.trans (by rfl)
      have HQ0 := hid hq0
      have HSZq0 : rsz q0 1 := by rw [hq0]; exact rsz_zero
      clear hq0
      obtain ⟨o0, o1, o2, y0, y1, y2⟩ := row.old (j) (by omega)
      have z0 := row.froz (j * 3)
      have z1 := row.froz (j * 3 + 1)
      have z2 := row.froz (j * 3 + 2)
      have hsz := hB.size
      go_upto_region 4 with fail
      generalize hw3 : World.setCell _ _ _ = w2
      have hst : RowPut w1 g M (j) (j) (S) q0 w2 := by rw [← hw3]; exact rowPut row (by omega) (by omega) mp1 mp2 mp3 mp4 mp5 mp6
      clear hw3 mp1 mp2 mp3 mp4 mp5 mp6
      replace row := hst.row
      replace hB := hst.below hB hgB hsz
      clear hst
      rw [show max j (j + 1) = j + 1 by omega] at row
      clear y0 y1 y2 z0 z1 z2 hsz
      replace row := row.whole (show q0 = S j by rw [HSE.out, HQ0.out])
      rw [HSE.out] at row
      clear HSE HSZq0 HQ0
      go_wp2
      go_roundg (gk - 1)
      case measure => omega
      case rel => exact ⟨j + 1, by go_num, by omega, by omega, row, hB⟩
    · obtain rfl : j = M := by omega
      have hlt' : ¬ (j : Int) < (j : Int) := by omega
      replace row := row.put' (show (fun _ => (0 : Rat)) = outP a b m' 0 from rfl)
      go_wp2
      obtain ⟨w0, hw0⟩ : ∃ W, W = wr := ⟨_, rfl⟩
      rw [← hw0] at row hB ⊢
      clear hw0 hlt hlt'
      obtain ⟨gK, rfl⟩ : ∃ gK : Nat, gK = gk := ⟨_, rfl⟩
      go_loopg [7] m (fun gg iv wx => ∃ i : Nat, iv = .int .i64 (i : Nat) ∧ i ≤ m ∧ m ≤ i + gg ∧ RowOk wx g j j (outP a b m' i) ∧ Below w.heap.size w wx)
      case atStart => exact ⟨0, rfl, by omega, by omega, row, hB⟩
      case round =>
        clear row hB
        obtain ⟨i, rfl, hi, hig, row, hB⟩ := hrel
        have hi0 : (0 : Int) ≤ (i : Int) := by omega
        by_cases hlt : i < m
        · have hlt' : (i : Int) < (m : Int) := by omega
          obtain ⟨bx, ox, s5, A5, n5, c5, A6, n6, c6, rfl, hbx, t0, t1, t2, hrx⟩ := h i hlt
          have hrsx := hra.out i hlt
          go_wp2
          obtain ⟨w2, hw2⟩ : ∃ W, W = wr := ⟨_, rfl⟩
          rw [← hw2] at row hB ⊢
          clear hw2
          obtain ⟨gI, rfl⟩ : ∃ gK : Nat, gK = gk := ⟨_, rfl⟩
          replace row := row.put' (show outP a b m' i = inP a b i (outP a b m' i) 0 from rfl)
          go_loopg [8] m' (fun gg jv wx => ∃ k : Nat, jv = .int .i64 (k : Nat) ∧ k ≤ m' ∧ m' ≤ k + gg ∧ RowOk wx g j j (inP a b i (outP a b m' i) k) ∧ Below w.heap.size w wx)
          case atStart => exact ⟨0, rfl, by omega, by omega, row, hB⟩
          case round =>
            clear row hB
            obtain ⟨k, rfl, hk, hkg, row, hB⟩ := hrel
            have hk0 : (0 : Int) ≤ (k : Int) := by omega
            by_cases hlk : k < m'
            · have hlk' : (k : Int) < (m' : Int) := by omega
              obtain ⟨by_, oy, s7, A7, n7, c7, A8, n8, c8, rfl, hby, v0, v1, v2, hry⟩ := h' k hlk
              have hrsy := hrb.out k hlk
              have hik : (i : Int) + (k : Int) = ((i + k : Nat) : Int) := by omega
              have hikw : IntKind.i64.wrap ((i : Int) + (k : Int)) = ((i + k : Nat) : Int) := by rw [IntWalk.i64_in _ (by omega)]; omega
              have hikl : i + k < j := by omega
              have hikw2 : IntKind.i64.wrap ((i + k : Nat) : Int) = ((i + k : Nat) : Int) := by rw [IntWalk.i64_in _ (by omega)]
              have hikl' : ((i + k : Nat) : Int) < (j : Int) := by omega
              have hik0 : (0 : Int) ≤ ((i + k : Nat) : Int) := by omega
              have hikt : ((i + k : Nat) : Int).toNat = i + k := by omega
              go_upto_region 12 with fail
              obtain ⟨w2, hw2⟩ : ∃ W, W = wr := ⟨_, rfl⟩
              rw [← hw2] at row hB ⊢
              clear hw2
              have hx := hrx.on hB
              have hy := hry.on hB
              obtain ⟨S, hSe⟩ : ∃ S, S = inP a b i (outP a b m' i) k := ⟨_, rfl⟩
              have hnxt : inP a b i (outP a b m' i) (k + 1) = updR S (i + k) (S (i + k) + a i * b k) := by rw [hSe]; rfl
              have hsz1 := hSI.out i hlt k (by omega) (i + k)
              have hsz2 : rsz (S (i + k) + a i * b k) (K + 1 + (N + N) + 1) := by have := hSI.out i hlt (k + 1) hlk (i + k); rw [hnxt] at this; simpa [updR] using this
              rw [← hSe] at row hsz1
              clear hSe
              obtain ⟨P, hP⟩ : ∃ P, P = i + k := ⟨_, rfl⟩
              rw [← hP] at hik hikw hikw2 hikl hikl' hik0 hikt hnxt hsz1 hsz2
              obtain ⟨x, hxe⟩ : ∃ x, x = a i := ⟨_, rfl⟩
              obtain ⟨y, hye⟩ : ∃ y, y = b k := ⟨_, rfl⟩
              rw [← hxe, ← hye] at hnxt hsz2
              rw [← hxe] at hx hrsx
              rw [← hye] at hy hrsy
              have hsxy := rsz_mul hrsx hrsy
              obtain ⟨q0, hq0⟩ : ∃ q, q = S P := ⟨_, rfl⟩
              rw [← hq0] at hnxt hsz1 hsz2
              have HQ0 := hid hq0
              have HNX := hid hnxt
              clear hq0 hnxt hxe hye hP
              have HS : Hid (∀ w' : World, Below w.heap.size w w' → w'.cell? ⟨bx, ox + i * 3, none⟩ = some (.bool (s5)) ∧ w'.cell? ⟨bx, ox + i * 3 + 1, none⟩ = some (.slice (A5) (n5) (c5)) ∧ w'.cell? ⟨bx, ox + i * 3 + 2, none⟩ = some (.slice (A6) (n6) (c6)) ∧ w'.cell? ⟨by_, oy + k * 3, none⟩ = some (.bool (s7)) ∧ w'.cell? ⟨by_, oy + k * 3 + 1, none⟩ = some (.slice (A7) (n7) (c7)) ∧ w'.cell? ⟨by_, oy + k * 3 + 2, none⟩ = some (.slice (A8) (n8) (c8))) := fun w' kb => ⟨cellS kb t0, cellS kb t1, cellS kb t2, cellS kb v0, cellS kb v1, cellS kb v2⟩
              refine wp_region_held_drew (S := fun w' => w'.cell? ⟨bx, ox + i * 3, none⟩ = some (.bool (s5)) ∧ w'.cell? ⟨bx, ox + i * 3 + 1, none⟩ = some (.slice (A5) (n5) (c5)) ∧ w'.cell? ⟨bx, ox + i * 3 + 2, none⟩ = some (.slice (A6) (n6) (c6)) ∧ w'.cell? ⟨by_, oy + k * 3, none⟩ = some (.bool (s7)) ∧ w'.cell? ⟨by_, oy + k * 3 + 1, none⟩ = some (.slice (A7) (n7) (c7)) ∧ w'.cell? ⟨by_, oy + k * 3 + 2, none⟩ = some (.slice (A8) (n8) (c8))) (by kernel_rfl) (HS.out _ hB.drew) (fun hHeld => ?_)
              obtain ⟨w3, hw⟩ : ∃ W, W = World.drew w2 := ⟨_, rfl⟩
              have kb : Below w2.heap.size w2 w3 := by rw [hw]; exact (Below.refl _ _).drew
              rw [← hw] at hHeld ⊢
              clear hw
              replace row := row.on kb
              replace hB := onS hB kb
              replace hx := hx.on kb
              replace hy := hy.on kb
              clear kb
              refine wpAnyH_take (i := 0) (v := ?_) (by simp only [List.getElem?_toArray, List.getElem?_cons_zero]; rfl) (by kernel_rfl) (by kernel_rfl) (by kernel_rfl) (by exact fun _ _ _ h => h) (Or.inl ⟨by rfl, ?_⟩) (by assumption) ?_
              rotate_left
              · (intro w hSw; (try dsimp only at hSw); go_simp); first | done | with_reducible rfl
              try simp only [Act.put, List.setIfInBounds_toArray, List.set_cons_zero, List.set_cons_succ]
              refine wpAnyH_take (i := 1) (v := ?_) (by simp only [List.getElem?_toArray, List.getElem?_cons_succ, List.getElem?_cons_zero]; rfl) (by kernel_rfl) (by kernel_rfl) (by kernel_rfl) (by exact fun _ _ _ h => h) (Or.inl ⟨by rfl, ?_⟩) (by assumption) ?_
              rotate_left
              · (intro w hSw; (try dsimp only at hSw); go_simp); first | done | with_reducible rfl
              try simp only [Act.put, List.setIfInBounds_toArray, List.set_cons_zero, List.set_cons_succ]
              refine wpAnyH_take (i := 2) (v := ?_) (by simp only [List.getElem?_toArray, List.getElem?_cons_succ, List.getElem?_cons_zero]; rfl) (by kernel_rfl) (by kernel_rfl) (by kernel_rfl) (by exact fun _ _ _ h => h) (Or.inl ⟨by rfl, ?_⟩) (by assumption) ?_
              rotate_left
              · (intro w hSw; (try dsimp only at hSw); go_simp); first | done | with_reducible rfl
              try simp only [Act.put, List.setIfInBounds_toArray, List.set_cons_zero, List.set_cons_succ]
              refine wpAnyH_take (i := 3) (v := ?_) (by simp only [List.getElem?_toArray, List.getElem?_cons_succ, List.getElem?_cons_zero]; rfl) (by kernel_rfl) (by kernel_rfl) (by kernel_rfl) (by exact fun _ _ _ h => h) (Or.inl ⟨by rfl, ?_⟩) (by assumption) ?_
              rotate_left
              · (intro w hSw; (try dsimp only at hSw); go_simp); first | done | with_reducible rfl
              try simp only [Act.put, List.setIfInBounds_toArray, List.set_cons_zero, List.set_cons_succ]
              refine wpAnyH_take (i := 4) (v := ?_) (by simp only [List.getElem?_toArray, List.getElem?_cons_succ, List.getElem?_cons_zero]; rfl) (by kernel_rfl) (by kernel_rfl) (by kernel_rfl) (by exact fun _ _ _ h => h) (Or.inl ⟨by rfl, ?_⟩) (by assumption) ?_
              rotate_left
              · (intro w hSw; (try dsimp only at hSw); go_simp); first | done | with_reducible rfl
              try simp only [Act.put, List.setIfInBounds_toArray, List.set_cons_zero, List.set_cons_succ]
              refine wpAnyH_take (i := 5) (v := ?_) (by simp only [List.getElem?_toArray, List.getElem?_cons_succ, List.getElem?_cons_zero]; rfl) (by kernel_rfl) (by kernel_rfl) (by kernel_rfl) (by exact fun _ _ _ h => h) (Or.inl ⟨by rfl, ?_⟩) (by assumption) ?_
              rotate_left
              · (intro w hSw; (try dsimp only at hSw); go_simp); first | done | with_reducible rfl
              try simp only [Act.put, List.setIfInBounds_toArray, List.set_cons_zero, List.set_cons_succ]
              refine wpAnyH_take (i := 6) (v := ?_) (by simp only [List.getElem?_toArray, List.getElem?_cons_succ, List.getElem?_cons_zero]; rfl) (by kernel_rfl) (by kernel_rfl) (by kernel_rfl) (by exact fun _ _ _ h => h) (Or.inl ⟨by rfl, ?_⟩) (by assumption) ?_
              rotate_left
              · (intro w hSw; (try dsimp only at hSw); go_simp); first | done | with_reducible rfl
              try simp only [Act.put, List.setIfInBounds_toArray, List.set_cons_zero, List.set_cons_succ]
              refine wpAnyH_take (i := 7) (v := ?_) (by simp only [List.getElem?_toArray, List.getElem?_cons_succ, List.getElem?_cons_zero]; rfl) (by kernel_rfl) (by kernel_rfl) (by kernel_rfl) (by exact fun _ _ _ h => h) (Or.inl ⟨by rfl, ?_⟩) (by assumption) ?_
              rotate_left
              · (intro w hSw; (try dsimp only at hSw); go_simp); first | done | with_reducible rfl
              try simp only [Act.put, List.setIfInBounds_toArray, List.set_cons_zero, List.set_cons_succ]
              refine wpAnyH_take (i := 8) (v := ?_) (by simp only [List.getElem?_toArray, List.getElem?_cons_succ, List.getElem?_cons_zero]; rfl) (by kernel_rfl) (by kernel_rfl) (by kernel_rfl) (by exact fun _ _ _ h => h) (Or.inl ⟨by rfl, ?_⟩) (by assumption) ?_
              rotate_left
              · (intro w hSw; (try dsimp only at hSw); go_simp); first | done | with_reducible rfl
              try simp only [Act.put, List.setIfInBounds_toArray, List.set_cons_zero, List.set_cons_succ]
              refine wpAnyH_take (i := 10) (v := ?_) (by simp only [List.getElem?_toArray, List.getElem?_cons_succ, List.getElem?_cons_zero]; rfl) (by kernel_rfl) (by kernel_rfl) (by kernel_rfl) (by exact fun _ _ _ h => h) (Or.inl ⟨by rfl, ?_⟩) (by assumption) ?_
              rotate_left
              · (intro w hSw; (try dsimp only at hSw); go_simp); first | done | with_reducible rfl
              try simp only [Act.put, List.setIfInBounds_toArray, List.set_cons_zero, List.set_cons_succ]
              refine wpAnyH_take (i := 11) (v := ?_) (by simp only [List.getElem?_toArray, List.getElem?_cons_succ, List.getElem?_cons_zero]; rfl) (by kernel_rfl) (by kernel_rfl) (by kernel_rfl) (by exact fun _ _ _ h => h) (Or.inl ⟨by rfl, ?_⟩) (by assumption) ?_
              rotate_left
              · (intro w hSw; (try dsimp only at hSw); go_simp); first | done | with_reducible rfl
              try simp only [Act.put, List.setIfInBounds_toArray, List.set_cons_zero, List.set_cons_succ]
              refine wpAnyH_take (i := 12) (v := ?_) (by simp only [List.getElem?_toArray, List.getElem?_cons_succ, List.getElem?_cons_zero]; rfl) (by kernel_rfl) (by kernel_rfl) (by kernel_rfl) (by exact fun _ _ _ h => h) (Or.inl ⟨by rfl, ?_⟩) (by assumption) ?_
              rotate_left
              · (intro w hSw; (try dsimp only at hSw); go_simp); first | done | with_reducible rfl
              try simp only [Act.put, List.setIfInBounds_toArray, List.set_cons_zero, List.set_cons_succ]
              refine wpAnyH_take (i := 13) (v := ?_) (by simp only [List.getElem?_toArray, List.getElem?_cons_succ, List.getElem?_cons_zero]; rfl) (by kernel_rfl) (by kernel_rfl) (by kernel_rfl) (by exact fun _ _ _ h => h) (Or.inl ⟨by rfl, ?_⟩) (by assumption) ?_
              rotate_left
              · (intro w hSw; (try dsimp only at hSw); go_simp); first | done | with_reducible rfl
              try simp only [Act.put, List.setIfInBounds_toArray, List.set_cons_zero, List.set_cons_succ]
              refine wpAnyH_take (i := 14) (v := ?_) (by simp only [List.getElem?_toArray, List.getElem?_cons_succ, List.getElem?_cons_zero]; rfl) (by kernel_rfl) (by kernel_rfl) (by kernel_rfl) (by exact fun _ _ _ h => h) (Or.inl ⟨by rfl, ?_⟩) (by assumption) ?_
              rotate_left
              · (intro w hSw; (try dsimp only at hSw); go_simp); first | done | with_reducible rfl
              try simp only [Act.put, List.setIfInBounds_toArray, List.set_cons_zero, List.set_cons_succ]
              refine wpAnyH_take (i := 15) (v := ?_) (by simp only [List.getElem?_toArray, List.getElem?_cons_succ, List.getElem?_cons_zero]; rfl) (by kernel_rfl) (by kernel_rfl) (by kernel_rfl) (by exact fun _ _ _ h => h) (Or.inl ⟨by rfl, ?_⟩) (by assumption) ?_
              rotate_left
              · (intro w hSw; (try dsimp only at hSw); go_simp); first | done | with_reducible rfl
              try simp only [Act.put, List.setIfInBounds_toArray, List.set_cons_zero, List.set_cons_succ]
              refine wpAnyH_take (i := 16) (v := ?_) (by simp only [List.getElem?_toArray, List.getElem?_cons_succ, List.getElem?_cons_zero]; rfl) (by kernel_rfl) (by kernel_rfl) (by kernel_rfl) (by exact fun _ _ _ h => h) (Or.inl ⟨by rfl, ?_⟩) (by assumption) ?_
              rotate_left
              · (intro w hSw; (try dsimp only at hSw); go_simp); first | done | with_reducible rfl
              try simp only [Act.put, List.setIfInBounds_toArray, List.set_cons_zero, List.set_cons_succ]
              refine wpAnyH_take (i := 17) (v := ?_) (by simp only [List.getElem?_toArray, List.getElem?_cons_succ, List.getElem?_cons_zero]; rfl) (by kernel_rfl) (by kernel_rfl) (by kernel_rfl) (by exact fun _ _ _ h => h) (Or.inl ⟨by rfl, ?_⟩) (by assumption) ?_
              rotate_left
              · (intro w hSw; (try dsimp only at hSw); go_simp); first | done | with_reducible rfl
              try simp only [Act.put, List.setIfInBounds_toArray, List.set_cons_zero, List.set_cons_succ]
              refine wpAnyH_ready (rs := [9, 18]) (by kernel_rfl) (by simp) ?_
              refine AllReadyH.cons (by simp only [List.getElem?_toArray, List.getElem?_cons_succ, List.getElem?_cons_zero]; rfl) (fun K hK => ?_) (AllReadyH.cons (by simp only [List.getElem?_toArray, List.getElem?_cons_succ, List.getElem?_cons_zero]; rfl) (fun K hK => ?_) AllReadyH.nil)
              · obtain ⟨Ao, co, Bo, do_, g0, g1, g2, mo1, mo2, mo3, mo4, mo5, mo6⟩ := row.get P (by omega)
                rw [← HQ0.out] at g0 g1 g2 mo1 mo2 mo3 mo5
                go_simp
                clear g0 g1 g2
                refine hK.out _ _ (HS.out _ hB) (fun hHeld => ?_)
                clear hK K
                try simp only [Act.put, List.setIfInBounds_toArray, List.set_cons_zero, List.set_cons_succ]
                refine wpAnyH_ready (rs := [18]) (by kernel_rfl) (by simp) ?_
                refine AllReadyH.cons (by simp only [List.getElem?_toArray, List.getElem?_cons_succ, List.getElem?_cons_zero]; rfl) (fun K hK => ?_) AllReadyH.nil
                go_simp
                go_wp2_with fail
                refine (refMul02_any _ _ x y NN _ hx hy (by omega) (hrsx.mono (by omega)) (hrsy.mono (by omega))).mono ?_
                rintro e w4 ⟨Am, cm, Bm, dm, rfl, mm1, mm2, mm3, mm4, mm5, mm6, kb⟩
                replace row := row.on kb
                replace hB := onS hB kb
                replace hx := hx.on kb
                replace hy := hy.on kb
                replace mo1 := mo1.on kb
                replace mo2 := mo2.on kb
                clear kb
                obtain ⟨xy, hxy⟩ : ∃ p, p = x * y := ⟨_, rfl⟩
                rw [← hxy] at mm1 mm2 mm3 mm5 hsxy hsz2 ⊢
                have HXY := hid hxy
                clear hxy
                refine hK.out _ _ (HS.out _ hB) (fun hHeld => ?_)
                clear hK K
                try simp only [Act.put, List.setIfInBounds_toArray, List.set_cons_zero, List.set_cons_succ]
                refine wpAnyH_ready (rs := [19]) (by kernel_rfl) (by simp) ?_
                refine AllReadyH.cons (by simp only [List.getElem?_toArray, List.getElem?_cons_succ, List.getElem?_cons_zero]; rfl) (fun K hK => ?_) AllReadyH.nil
                go_simp
                go_wp2_with fail
                refine (refAdd02_any _ _ q0 xy NN _ (RatOk.raw ⟨Ao, co, Bo, do_, rfl, mo1, mo2, mo3, mo4, mo5, mo6⟩ (hsz1.mono (by omega))) (RatOk.raw ⟨Am, cm, Bm, dm, rfl, mm1, mm2, mm3, mm4, mm5, mm6⟩ (hsxy.mono (by omega))) (by omega) (hsz1.mono (by omega)) (hsxy.mono (by omega))).mono ?_
                rintro e w5 ⟨Ap, cp, Bp, dp, rfl, mp1, mp2, mp3, mp4, mp5, mp6, kb⟩
                replace row := row.on kb
                replace hB := onS hB kb
                replace hx := hx.on kb
                replace hy := hy.on kb
                replace mo1 := mo1.on kb
                replace mo2 := mo2.on kb
                replace mm1 := mm1.on kb
                replace mm2 := mm2.on kb
                clear kb
                obtain ⟨q1, hq1⟩ : ∃ z, z = q0 + xy := ⟨_, rfl⟩
                rw [← hq1] at mp1 mp2 mp3 mp5 hsz2 ⊢
                have HQ1 := hid hq1
                clear hq1
                clear mo1 mo2 mo3 mo4 mo5 mo6 mm1 mm2 mm3 mm4 mm5 mm6
                refine hK.out _ _ (HS.out _ hB) (fun hHeld => ?_)
                clear hK K
                try simp only [Act.put, List.setIfInBounds_toArray, List.set_cons_zero, List.set_cons_succ]
                refine wpAnyH_take (i := 20) (v := ?_) (by simp only [List.getElem?_toArray, List.getElem?_cons_succ, List.getElem?_cons_zero]; rfl) (by kernel_rfl) (by kernel_rfl) (by kernel_rfl) (by exact fun _ _ _ h => h) (Or.inl ⟨by rfl, ?_⟩) (by assumption) ?_
                rotate_left
                · (intro w hSw; (try dsimp only at hSw); go_simp); first | done | with_reducible rfl
                try simp only [Act.put, List.setIfInBounds_toArray, List.set_cons_zero, List.set_cons_succ]
                obtain ⟨o0, o1, o2, y0, y1, y2⟩ := row.old (P) (by omega)
                have z0 := row.froz (P * 3)
                have z1 := row.froz (P * 3 + 1)
                have z2 := row.froz (P * 3 + 2)
                have hsz := hB.size
                refine wpAnyH_ready (rs := [21]) (by kernel_rfl) (by simp) ?_
                refine AllReadyH.cons (by simp only [List.getElem?_toArray, List.getElem?_cons_succ, List.getElem?_cons_zero]; rfl) (fun K hK => ?_) AllReadyH.nil
                go_simp
                generalize hw3 : World.setCell _ _ _ = w6
                have hst : RowPut w5 g j j P S q1 w6 := by rw [← hw3]; exact rowPut row (by omega) (by omega) mp1 mp2 mp3 mp4 mp5 mp6
                clear hw3 mp1 mp2 mp3 mp4 mp5 mp6 hx hy
                replace row := hst.row
                rw [show max j (P + 1) = j by omega] at row
                replace hB := hst.below hB hgB hsz
                clear hst
                refine hK.out _ _ (HS.out _ hB) (fun hHeld => ?_)
                clear hK K
                try simp only [Act.put, List.setIfInBounds_toArray, List.set_cons_zero, List.set_cons_succ]
                refine wpAnyH_done (by kernel_rfl) ?_ _
                clear hHeld
                replace row := row.put' (show updR S P q1 = inP a b i (outP a b m' i) (k + 1) by rw [HNX.out, HQ1.out, HXY.out])
                clear y0 y1 y2 z0 z1 z2 hsz HS HNX HQ1 HXY HQ0 hsz1 hsz2 hsxy hikw hikw2 hik hikt
                go_wp2
                go_roundg (gk - 1)
                case measure => omega
                case rel => exact ⟨k + 1, by go_num, by omega, by omega, row, hB⟩
              · go_simp
                go_wp2_with fail
                refine (refMul02_any _ _ x y NN _ hx hy (by omega) (hrsx.mono (by omega)) (hrsy.mono (by omega))).mono ?_
                rintro e w4 ⟨Am, cm, Bm, dm, rfl, mm1, mm2, mm3, mm4, mm5, mm6, kb⟩
                replace row := row.on kb
                replace hB := onS hB kb
                replace hx := hx.on kb
                replace hy := hy.on kb
                clear kb
                obtain ⟨xy, hxy⟩ : ∃ p, p = x * y := ⟨_, rfl⟩
                rw [← hxy] at mm1 mm2 mm3 mm5 hsxy hsz2 ⊢
                have HXY := hid hxy
                clear hxy
                refine hK.out _ _ (HS.out _ hB) (fun hHeld => ?_)
                clear hK K
                try simp only [Act.put, List.setIfInBounds_toArray, List.set_cons_zero, List.set_cons_succ]
                refine wpAnyH_ready (rs := [9]) (by kernel_rfl) (by simp) ?_
                refine AllReadyH.cons (by simp only [List.getElem?_toArray, List.getElem?_cons_succ, List.getElem?_cons_zero]; rfl) (fun K hK => ?_) AllReadyH.nil
                obtain ⟨Ao, co, Bo, do_, g0, g1, g2, mo1, mo2, mo3, mo4, mo5, mo6⟩ := row.get P (by omega)
                rw [← HQ0.out] at g0 g1 g2 mo1 mo2 mo3 mo5
                go_simp
                clear g0 g1 g2
                refine hK.out _ _ (HS.out _ hB) (fun hHeld => ?_)
                clear hK K
                try simp only [Act.put, List.setIfInBounds_toArray, List.set_cons_zero, List.set_cons_succ]
                refine wpAnyH_ready (rs := [19]) (by kernel_rfl) (by simp) ?_
                refine AllReadyH.cons (by simp only [List.getElem?_toArray, List.getElem?_cons_succ, List.getElem?_cons_zero]; rfl) (fun K hK => ?_) AllReadyH.nil
                go_simp
                go_wp2_with fail
                refine (refAdd02_any _ _ q0 xy NN _ (RatOk.raw ⟨Ao, co, Bo, do_, rfl, mo1, mo2, mo3, mo4, mo5, mo6⟩ (hsz1.mono (by omega))) (RatOk.raw ⟨Am, cm, Bm, dm, rfl, mm1, mm2, mm3, mm4, mm5, mm6⟩ (hsxy.mono (by omega))) (by omega) (hsz1.mono (by omega)) (hsxy.mono (by omega))).mono ?_
                rintro e w5 ⟨Ap, cp, Bp, dp, rfl, mp1, mp2, mp3, mp4, mp5, mp6, kb⟩
                replace row := row.on kb
                replace hB := onS hB kb
                replace hx := hx.on kb
                replace hy := hy.on kb
                replace mm1 := mm1.on kb
                replace mm2 := mm2.on kb
                replace mo1 := mo1.on kb
                replace mo2 := mo2.on kb
                clear kb
                obtain ⟨q1, hq1⟩ : ∃ z, z = q0 + xy := ⟨_, rfl⟩
                rw [← hq1] at mp1 mp2 mp3 mp5 hsz2 ⊢
                have HQ1 := hid hq1
                clear hq1
                clear mo1 mo2 mo3 mo4 mo5 mo6 mm1 mm2 mm3 mm4 mm5 mm6
                refine hK.out _ _ (HS.out _ hB) (fun hHeld => ?_)
                clear hK K
                try simp only [Act.put, List.setIfInBounds_toArray, List.set_cons_zero, List.set_cons_succ]
                refine wpAnyH_take (i := 20) (v := ?_) (by simp only [List.getElem?_toArray, List.getElem?_cons_succ, List.getElem?_cons_zero]; rfl) (by kernel_rfl) (by kernel_rfl) (by kernel_rfl) (by exact fun _ _ _ h => h) (Or.inl ⟨by rfl, ?_⟩) (by assumption) ?_
                rotate_left
                · (intro w hSw; (try dsimp only at hSw); go_simp); first | done | with_reducible rfl
                try simp only [Act.put, List.setIfInBounds_toArray, List.set_cons_zero, List.set_cons_succ]
                obtain ⟨o0, o1, o2, y0, y1, y2⟩ := row.old (P) (by omega)
                have z0 := row.froz (P * 3)
                have z1 := row.froz (P * 3 + 1)
                have z2 := row.froz (P * 3 + 2)
                have hsz := hB.size
                refine wpAnyH_ready (rs := [21]) (by kernel_rfl) (by simp) ?_
                refine AllReadyH.cons (by simp only [List.getElem?_toArray, List.getElem?_cons_succ, List.getElem?_cons_zero]; rfl) (fun K hK => ?_) AllReadyH.nil
                go_simp
                generalize hw3 : World.setCell _ _ _ = w6
                have hst : RowPut w5 g j j P S q1 w6 := by rw [← hw3]; exact rowPut row (by omega) (by omega) mp1 mp2 mp3 mp4 mp5 mp6
                clear hw3 mp1 mp2 mp3 mp4 mp5 mp6 hx hy
                replace row := hst.row
                rw [show max j (P + 1) = j by omega] at row
                replace hB := hst.below hB hgB hsz
                clear hst
                refine hK.out _ _ (HS.out _ hB) (fun hHeld => ?_)
                clear hK K
                try simp only [Act.put, List.setIfInBounds_toArray, List.set_cons_zero, List.set_cons_succ]
                refine wpAnyH_done (by kernel_rfl) ?_ _
                clear hHeld
                replace row := row.put' (show updR S P q1 = inP a b i (outP a b m' i) (k + 1) by rw [HNX.out, HQ1.out, HXY.out])
                clear y0 y1 y2 z0 z1 z2 hsz HS HNX HQ1 HXY HQ0 hsz1 hsz2 hsxy hikw hikw2 hik hikt
                go_wp2
                go_roundg (gk - 1)
                case measure => omega
                case rel => exact ⟨k + 1, by go_num, by omega, by omega, row, hB⟩
            · obtain rfl : k = m' := by omega
              have hlk' : ¬ (k : Int) < (k : Int) := by omega
              replace row := row.put' (show inP a b i (outP a b k i) k = outP a b k (i + 1) from rfl)
              go_wp2
              go_roundg (gI - 1)
              case measure => omega
              case rel => exact ⟨i + 1, by go_num, by omega, by omega, row, hB⟩
        · obtain rfl : i = m := by omega
          have hlt' : ¬ (i : Int) < (i : Int) := by omega
          have hl := row.list.tab (fun p _ => hSO.out i (by omega) p)
          go_wp2_with fail
          refine (refCanon55_any (some ⟨g, 0, none⟩) j j (K + 1) (outP a b m' i) _ hl (by omega) (by omega)).mono ?_
          rintro e w2 ⟨Ar, cr, rfl, e1, e2, e3, kb⟩
          replace hB := onS hB kb
          clear kb hl row
          obtain ⟨cl, hcl⟩ : ∃ cl, cl = clen (outP a b m' i) j := ⟨_, rfl⟩
          rw [← hcl] at e1 e3 ⊢
          have HCL := hid hcl
          clear hcl
          go_wp2
          go_ret
          exact ⟨_, _, by rw [HCL.out]; rfl, by rw [HCL.out] at e1; exact e1, e2, by rw [HCL.out] at e3; exact e3, hB⟩
end Go.Proofs.Ytlfmnaepcndhiaa
