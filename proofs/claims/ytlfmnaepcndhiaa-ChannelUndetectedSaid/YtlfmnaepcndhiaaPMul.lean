/- channel.Mul. -/
import Derived.Test.YtlfmnaepcndhiaaRefPAdd
namespace Go.Proofs.Ytlfmnaepcndhiaa
open Go.RowKit

/-- Row i of the product, its first j entries added. -/
def inP (a b : Nat → Rat) (i : Nat) (S : Nat → Rat) : Nat → Nat → Rat
  | 0 => S
  | j + 1 => updR (inP a b i S j) (i + j) (inP a b i S j (i + j) + a i * b j)
def outP (a b : Nat → Rat) (m' : Nat) : Nat → Nat → Rat
  | 0 => fun _ => 0
  | i + 1 => inP a b i (outP a b m' i) m'
theorem inP_ge {a b : Nat → Rat} {i : Nat} {S : Nat → Rat} {j p : Nat} (h : i + j ≤ p ∨ p < i) : inP a b i S j p = S p := by
  induction j with
  | zero => rfl
  | succ j ih =>
    show updR _ _ _ p = _
    unfold updR
    rw [if_neg (by omega)]
    exact ih (by omega)
theorem rsz_inP {a b : Nat → Rat} {i N K m m' : Nat} {S : Nat → Rat} (h1 : ∀ k, k < m → rsz (a k) N) (h2 : ∀ k, k < m' → rsz (b k) N) (hi : i < m) (hS : ∀ p, rsz (S p) K) :
    ∀ j, j ≤ m' → ∀ p, rsz (inP a b i S j p) (K + (N + N) + 1) := by
  intro j
  induction j with
  | zero => exact fun _ p => (hS p).mono (by omega)
  | succ j ih =>
    intro hj p
    show rsz (updR _ _ _ p) _
    unfold updR
    split
    · rw [inP_ge (by omega)]
      exact rsz_add (hS _) (rsz_mul (h1 i hi) (h2 j (by omega)))
    · exact ih (by omega) p
theorem rsz_outP {a b : Nat → Rat} {N m m' : Nat} (h1 : ∀ k, k < m → rsz (a k) N) (h2 : ∀ k, k < m' → rsz (b k) N) :
    ∀ i, i ≤ m → ∀ p, rsz (outP a b m' i p) (1 + i * (N + N + 1)) := by
  intro i
  induction i with
  | zero => exact fun _ p => by show rsz (0 : Rat) (1 + 0 * (N + N + 1)); rw [Nat.zero_mul]; exact rsz_zero
  | succ i ih =>
    intro hi p
    have := rsz_inP h1 h2 (i := i) (by omega) (ih (by omega)) m' (Nat.le_refl _) p
    rw [Nat.add_mul, Nat.one_mul]
    exact this.mono (by omega)
/-- The product. -/
def mulP (a : Nat → Rat) (m : Nat) (b : Nat → Rat) (m' : Nat) : Nat → Rat := outP a b m' m
theorem RowOk.put' {w : World} {g M k : Nat} {rs rs' : Nat → Rat} (h : RowOk w g M k rs) (e : rs = rs') : RowOk w g M k rs' := e ▸ h

set_option maxRecDepth 100000 in
set_option maxHeartbeats 16000000 in
theorem chPMul_any (T T' : Option Addr) (m c m' c' N K : Nat) (a b : Nat → Rat) (w : World) (h : RatTab w w.heap.size T m a N) (h' : RatTab w w.heap.size T' m' b N) (hm : m ≤ 524288) (hm' : m' ≤ 524288) (hK : m * (N + N + 1) ≤ K) (hKN : K + N + N + 5 ≤ 33554432) (hra : Hid (∀ k, k < m → rsz (a k) N)) (hrb : Hid (∀ k, k < m' → rsz (b k) N)) :
    Calls Try.prog 15 #[.slice T m c, .slice T' m' c'] w (PolyPost (clen (mulP a m b m') (m + m')) (mulP a m b m') w) := by
  obtain ⟨NN, hNN⟩ : ∃ n, n = K + N + N + 5 := ⟨_, rfl⟩
  have hn1 : NN ≤ 33554432 := by omega
  have hn2 : K + N + N + 5 ≤ NN := by omega
  clear hNN
  replace h := h.mono (show N ≤ NN by omega)
  replace h' := h'.mono (show N ≤ NN by omega)
  have hSO : Hid (∀ i, i ≤ m → ∀ p, rsz (outP a b m' i p) (K + 1)) := fun i hi p => (rsz_outP hra.out hrb.out i hi p).mono (by have : i * (N + N + 1) ≤ m * (N + N + 1) := Nat.mul_le_mul_right _ hi; omega)
  have hSI : Hid (∀ i, i < m → ∀ j, j ≤ m' → ∀ p, rsz (inP a b i (outP a b m' i) j p) (K + 1 + (N + N) + 1)) := fun i hi j hj p => rsz_inP hra.out hrb.out hi (hSO.out i (by omega)) j hj p
  have hwr1 : IntKind.i64.wrap ((m : Int) + (m' : Int)) = ((m + m' : Nat) : Int) := by rw [IntWalk.i64_in _ (by omega)]; omega
  have hwr2 : (m : Int) + (m' : Int) = ((m + m' : Nat) : Int) := by omega
  obtain ⟨M, hM⟩ : ∃ M, M = m + m' := ⟨_, rfl⟩
  rw [← hM] at hwr1 hwr2 ⊢
  have hMle : M ≤ 1048576 := by omega
  have hM1 : m + m' ≤ M := by omega
  have HM := hid hM
  clear hM
  have hmk := fun W => run_makeRat M hMle W
  have kb1 := below_one w (.cells (madeCells #[.bool false, .slice none 0 0, .slice none 0 0] (M * 3)) 32)
  have row := rowOk_made w M (fun _ => 0)
  have hB := kb1
  clear kb1
  have hm0 : (0 : Int) ≤ (m : Int) := by omega
  have hm0' : (0 : Int) ≤ (m' : Int) := by omega
  go_enter Try.func15, Try.ntmps15
  go_wp2
  obtain ⟨w1, hw1⟩ : ∃ W, W = w.alloc (.cells (madeCells #[.bool false, .slice none 0 0, .slice none 0 0] (M * 3)) 32) := ⟨_, rfl⟩
  obtain ⟨g, hg⟩ : ∃ g, g = w.heap.size := ⟨_, rfl⟩
  rw [← hw1, ← hg]
  rw [← hw1] at hB row
  rw [← hg] at row
  have hgB : w.heap.size ≤ g := by omega
  clear hw1 hg hmk hwr2 hwr1
  go_loopg [19] M (fun gg iv wx => ∃ j : Nat, iv = .int .i64 (j : Nat) ∧ j ≤ M ∧ M ≤ j + gg ∧ RowOk wx g M j (fun _ => 0) ∧ Below w.heap.size w wx)
  case atStart => exact ⟨0, rfl, by omega, by omega, row, hB⟩
  case round =>
    clear row hB
    obtain ⟨j, rfl, hj, hjg, row, hB⟩ := hrel
    have hj0 : (0 : Int) ≤ (j : Int) := by omega
    by_cases hlt : j < M
    · have hlt' : (j : Int) < (M : Int) := by omega
      obtain ⟨w0, hw0⟩ : ∃ W, W = wr := ⟨_, rfl⟩
      rw [← hw0] at row hB ⊢
      clear hw0
      obtain ⟨S, hSe⟩ : ∃ S : Nat → Rat, S = fun _ => 0 := ⟨_, rfl⟩
      rw [← hSe] at row
      have HSE := hid hSe
      clear hSe
      go_wp2_with fail
      refine (chZero_any _).mono ?_
      rintro e w1 ⟨Ap, cp, Bp, dp, rfl, mp1, mp2, mp3, mp4, mp5, mp6, kb⟩
      replace row := row.on kb
      replace hB := onS hB kb
      clear kb
      obtain ⟨q0, hq0⟩ : ∃ q : Rat, q = (0 : Rat) := ⟨_, rfl⟩
      rw [← hq0] at mp1 mp2 mp3 mp5 ⊢
      replace hq0 : q0 = 0 := hq0.trans (by rfl)
      have HQ0 := hid hq0
      have HSZq0 : rsz q0 1 := by rw [hq0]; exact rsz_zero
      clear hq0
      obtain ⟨o0, o1, o2, y0, y1, y2⟩ := row.old (j) (by omega)
      have z0 := row.froz (j * 3)
      have z1 := row.froz (j * 3 + 1)
      have z2 := row.froz (j * 3 + 2)
      have hsz := hB.size
      go_upto_region 6 with fail
      generalize hw3 : World.setCell _ _ _ = w2
      have hst : RowPut w1 g M (j) (j) (S) q0 w2 := by rw [← hw3]; exact rowPut row (by omega) (by omega) mp1 mp2 mp3 mp4 mp5 mp6
      clear hw3 mp1 mp2 mp3 mp4 mp5 mp6
      replace row := hst.row
      replace hB := hst.below hB hgB hsz
      clear hst
      rw [show max j (j + 1) = j + 1 by omega] at row
      clear y0 y1 y2 z0 z1 z2 hsz
      replace row := row.whole (show q0 = S j by rw [HSE.out, HQ0.out])
      rw [HSE.out] at row
      clear HSE HSZq0 HQ0
      go_wp2
      go_roundg (gk - 1)
      case measure => omega
      case rel => exact ⟨j + 1, by go_num, by omega, by omega, row, hB⟩
    · obtain rfl : j = M := by omega
      have hlt' : ¬ (j : Int) < (j : Int) := by omega
      replace row := row.put' (show (fun _ => (0 : Rat)) = outP a b m' 0 from rfl)
      go_wp2
      obtain ⟨w0, hw0⟩ : ∃ W, W = wr := ⟨_, rfl⟩
      rw [← hw0] at row hB ⊢
      clear hw0 hlt hlt'
      obtain ⟨gK, rfl⟩ : ∃ gK : Nat, gK = gk := ⟨_, rfl⟩
      go_loopg [29] m (fun gg iv wx => ∃ i : Nat, iv = .int .i64 (i : Nat) ∧ i ≤ m ∧ m ≤ i + gg ∧ RowOk wx g j j (outP a b m' i) ∧ Below w.heap.size w wx)
      case atStart => exact ⟨0, rfl, by omega, by omega, row, hB⟩
      case round =>
        clear row hB
        obtain ⟨i, rfl, hi, hig, row, hB⟩ := hrel
        have hi0 : (0 : Int) ≤ (i : Int) := by omega
        by_cases hlt : i < m
        · have hlt' : (i : Int) < (m : Int) := by omega
          obtain ⟨bx, ox, s5, A5, n5, c5, A6, n6, c6, rfl, hbx, t0, t1, t2, hrx⟩ := h i hlt
          have hrsx := hra.out i hlt
          have u0 := cellS hB t0
          have u1 := cellS hB t1
          have u2 := cellS hB t2
          have hBo := hB.size
          have hrl := row.lt
          have kb := below_one wr (.cells #[.bool s5, .slice A5 n5 c5, .slice A6 n6 c6] 32)
          have rx := box_row (w := wr) (a := .bool s5) (b := .slice A5 n5 c5) (c := .slice A6 n6 c6) (T := 32)
          replace row := row.on kb
          replace hB := onS hB kb
          clear kb
          go_wp2
          obtain ⟨w2, hw2⟩ : ∃ W, W = wr.alloc (.cells #[.bool s5, .slice A5 n5 c5, .slice A6 n6 c6] 32) := ⟨_, rfl⟩
          obtain ⟨gx, hgx⟩ : ∃ g, g = wr.heap.size := ⟨_, rfl⟩
          rw [← hw2, ← hgx]
          rw [← hw2] at row rx hB
          rw [← hgx] at rx hrl
          clear hw2 hgx u0 u1 u2 hBo
          obtain ⟨gI, rfl⟩ : ∃ gK : Nat, gK = gk := ⟨_, rfl⟩
          replace row := row.put' (show outP a b m' i = inP a b i (outP a b m' i) 0 from rfl)
          go_loopg [36] m' (fun gg jv wx => ∃ k : Nat, jv = .int .i64 (k : Nat) ∧ k ≤ m' ∧ m' ≤ k + gg ∧ RowOk wx g j j (inP a b i (outP a b m' i) k) ∧ wx.rowIs gx 32 3 (ratCell (.bool (s5)) (.slice (A5) (n5) (c5)) (.slice (A6) (n6) (c6))) ∧ Below w.heap.size w wx)
          case atStart => exact ⟨0, rfl, by omega, by omega, row, rx, hB⟩
          case round =>
            clear row hB rx
            obtain ⟨k, rfl, hk, hkg, row, rx, hB⟩ := hrel
            have hk0 : (0 : Int) ≤ (k : Int) := by omega
            by_cases hlk : k < m'
            · have hlk' : (k : Int) < (m' : Int) := by omega
              obtain ⟨by_, oy, s7, A7, n7, c7, A8, n8, c8, rfl, hby, v0, v1, v2, hry⟩ := h' k hlk
              have hrsy := hrb.out k hlk
              have hik : (i : Int) + (k : Int) = ((i + k : Nat) : Int) := by omega
              have hikw : IntKind.i64.wrap ((i : Int) + (k : Int)) = ((i + k : Nat) : Int) := by rw [IntWalk.i64_in _ (by omega)]; omega
              have hikl : i + k < j := by omega
              have hikw2 : IntKind.i64.wrap ((i + k : Nat) : Int) = ((i + k : Nat) : Int) := by rw [IntWalk.i64_in _ (by omega)]
              have hikl' : ((i + k : Nat) : Int) < (j : Int) := by omega
              have hik0 : (0 : Int) ≤ ((i + k : Nat) : Int) := by omega
              have hikt : ((i + k : Nat) : Int).toNat = i + k := by omega
              have u0 := cellS hB v0
              have u1 := cellS hB v1
              have u2 := cellS hB v2
              have hBo := hB.size
              have hrl2 := row.lt
              have kb := below_one wr (.cells #[.bool s7, .slice A7 n7 c7, .slice A8 n8 c8] 32)
              have ry := box_row (w := wr) (a := .bool s7) (b := .slice A7 n7 c7) (c := .slice A8 n8 c8) (T := 32)
              replace row := row.on kb
              replace rx := rowIs_on rx kb
              replace hB := onS hB kb
              clear kb
              go_upto_region 13 with fail
              obtain ⟨w2, hw2⟩ : ∃ W, W = wr.alloc (.cells #[.bool s7, .slice A7 n7 c7, .slice A8 n8 c8] 32) := ⟨_, rfl⟩
              obtain ⟨gy, hgy⟩ : ∃ g, g = wr.heap.size := ⟨_, rfl⟩
              rw [← hw2, ← hgy]
              rw [← hw2] at row rx ry hB
              rw [← hgy] at ry hrl2
              clear hw2 hgy u0 u1 u2 hBo
              have hx := hrx.on hB
              have hy := hry.on hB
              obtain ⟨S, hSe⟩ : ∃ S, S = inP a b i (outP a b m' i) k := ⟨_, rfl⟩
              have hnxt : inP a b i (outP a b m' i) (k + 1) = updR S (i + k) (S (i + k) + a i * b k) := by rw [hSe]; rfl
              have hsz1 := hSI.out i hlt k (by omega) (i + k)
              have hsz2 : rsz (S (i + k) + a i * b k) (K + 1 + (N + N) + 1) := by have := hSI.out i hlt (k + 1) hlk (i + k); rw [hnxt] at this; simpa [updR] using this
              rw [← hSe] at row hsz1
              clear hSe
              obtain ⟨P, hP⟩ : ∃ P, P = i + k := ⟨_, rfl⟩
              rw [← hP] at hik hikw hikw2 hikl hikl' hik0 hikt hnxt hsz1 hsz2
              obtain ⟨x, hxe⟩ : ∃ x, x = a i := ⟨_, rfl⟩
              obtain ⟨y, hye⟩ : ∃ y, y = b k := ⟨_, rfl⟩
              rw [← hxe, ← hye] at hnxt hsz2
              rw [← hxe] at hx hrsx
              rw [← hye] at hy hrsy
              have hsxy := rsz_mul hrsx hrsy
              obtain ⟨q0, hq0⟩ : ∃ q, q = S P := ⟨_, rfl⟩
              rw [← hq0] at hnxt hsz1 hsz2
              have HQ0 := hid hq0
              have HNX := hid hnxt
              clear hq0 hnxt hxe hye hP
              have HS : Hid (∀ w' : World, w'.rowIs gx 32 3 (ratCell (.bool (s5)) (.slice (A5) (n5) (c5)) (.slice (A6) (n6) (c6))) → w'.rowIs gy 32 3 (ratCell (.bool (s7)) (.slice (A7) (n7) (c7)) (.slice (A8) (n8) (c8))) → w'.cell? ⟨gx, 0, none⟩ = some (.bool (s5)) ∧ w'.cell? ⟨gx, 1, none⟩ = some (.slice (A5) (n5) (c5)) ∧ w'.cell? ⟨gx, 2, none⟩ = some (.slice (A6) (n6) (c6)) ∧ w'.cell? ⟨gy, 0, none⟩ = some (.bool (s7)) ∧ w'.cell? ⟨gy, 1, none⟩ = some (.slice (A7) (n7) (c7)) ∧ w'.cell? ⟨gy, 2, none⟩ = some (.slice (A8) (n8) (c8))) := fun w' h1 h2 => ⟨h1.cell (i := 0) (by omega), h1.cell (i := 1) (by omega), h1.cell (i := 2) (by omega), h2.cell (i := 0) (by omega), h2.cell (i := 1) (by omega), h2.cell (i := 2) (by omega)⟩
              refine wp_region_held_drew (S := fun w' => w'.cell? ⟨gx, 0, none⟩ = some (.bool (s5)) ∧ w'.cell? ⟨gx, 1, none⟩ = some (.slice (A5) (n5) (c5)) ∧ w'.cell? ⟨gx, 2, none⟩ = some (.slice (A6) (n6) (c6)) ∧ w'.cell? ⟨gy, 0, none⟩ = some (.bool (s7)) ∧ w'.cell? ⟨gy, 1, none⟩ = some (.slice (A7) (n7) (c7)) ∧ w'.cell? ⟨gy, 2, none⟩ = some (.slice (A8) (n8) (c8))) (by kernel_rfl) (HS.out _ (show World.rowIs (World.drew _) _ _ _ _ from rx) (show World.rowIs (World.drew _) _ _ _ _ from ry)) (fun hHeld => ?_)
              obtain ⟨w3, hw⟩ : ∃ W, W = World.drew w2 := ⟨_, rfl⟩
              have kb : Below w2.heap.size w2 w3 := by rw [hw]; exact (Below.refl _ _).drew
              rw [← hw] at hHeld ⊢
              clear hw
              replace row := row.on kb
              replace hB := onS hB kb
              replace hx := hx.on kb
              replace hy := hy.on kb
              replace rx := rowIs_on rx kb
              replace ry := rowIs_on ry kb
              clear kb
              refine wpAnyH_take (i := 0) (v := ?_) (by simp only [List.getElem?_toArray, List.getElem?_cons_zero]; rfl) (by kernel_rfl) (by kernel_rfl) (by kernel_rfl) (by exact fun _ _ _ h => h) (Or.inl ⟨by rfl, ?_⟩) (by assumption) ?_
              rotate_left
              · (intro w hSw; (try dsimp only at hSw); go_simp); first | done | with_reducible rfl
              try simp only [Act.put, List.setIfInBounds_toArray, List.set_cons_zero, List.set_cons_succ]
              refine wpAnyH_take (i := 1) (v := ?_) (by simp only [List.getElem?_toArray, List.getElem?_cons_succ, List.getElem?_cons_zero]; rfl) (by kernel_rfl) (by kernel_rfl) (by kernel_rfl) (by exact fun _ _ _ h => h) (Or.inl ⟨by rfl, ?_⟩) (by assumption) ?_
              rotate_left
              · (intro w hSw; (try dsimp only at hSw); go_simp); first | done | with_reducible rfl
              try simp only [Act.put, List.setIfInBounds_toArray, List.set_cons_zero, List.set_cons_succ]
              refine wpAnyH_take (i := 2) (v := ?_) (by simp only [List.getElem?_toArray, List.getElem?_cons_succ, List.getElem?_cons_zero]; rfl) (by kernel_rfl) (by kernel_rfl) (by kernel_rfl) (by exact fun _ _ _ h => h) (Or.inl ⟨by rfl, ?_⟩) (by assumption) ?_
              rotate_left
              · (intro w hSw; (try dsimp only at hSw); go_simp); first | done | with_reducible rfl
              try simp only [Act.put, List.setIfInBounds_toArray, List.set_cons_zero, List.set_cons_succ]
              refine wpAnyH_take (i := 3) (v := ?_) (by simp only [List.getElem?_toArray, List.getElem?_cons_succ, List.getElem?_cons_zero]; rfl) (by kernel_rfl) (by kernel_rfl) (by kernel_rfl) (by exact fun _ _ _ h => h) (Or.inl ⟨by rfl, ?_⟩) (by assumption) ?_
              rotate_left
              · (intro w hSw; (try dsimp only at hSw); go_simp); first | done | with_reducible rfl
              try simp only [Act.put, List.setIfInBounds_toArray, List.set_cons_zero, List.set_cons_succ]
              refine wpAnyH_take (i := 4) (v := ?_) (by simp only [List.getElem?_toArray, List.getElem?_cons_succ, List.getElem?_cons_zero]; rfl) (by kernel_rfl) (by kernel_rfl) (by kernel_rfl) (by exact fun _ _ _ h => h) (Or.inl ⟨by rfl, ?_⟩) (by assumption) ?_
              rotate_left
              · (intro w hSw; (try dsimp only at hSw); go_simp); first | done | with_reducible rfl
              try simp only [Act.put, List.setIfInBounds_toArray, List.set_cons_zero, List.set_cons_succ]
              refine wpAnyH_take (i := 5) (v := ?_) (by simp only [List.getElem?_toArray, List.getElem?_cons_succ, List.getElem?_cons_zero]; rfl) (by kernel_rfl) (by kernel_rfl) (by kernel_rfl) (by exact fun _ _ _ h => h) (Or.inl ⟨by rfl, ?_⟩) (by assumption) ?_
              rotate_left
              · (intro w hSw; (try dsimp only at hSw); go_simp); first | done | with_reducible rfl
              try simp only [Act.put, List.setIfInBounds_toArray, List.set_cons_zero, List.set_cons_succ]
              refine wpAnyH_take (i := 6) (v := ?_) (by simp only [List.getElem?_toArray, List.getElem?_cons_succ, List.getElem?_cons_zero]; rfl) (by kernel_rfl) (by kernel_rfl) (by kernel_rfl) (by exact fun _ _ _ h => h) (Or.inl ⟨by rfl, ?_⟩) (by assumption) ?_
              rotate_left
              · (intro w hSw; (try dsimp only at hSw); go_simp); first | done | with_reducible rfl
              try simp only [Act.put, List.setIfInBounds_toArray, List.set_cons_zero, List.set_cons_succ]
              refine wpAnyH_take (i := 7) (v := ?_) (by simp only [List.getElem?_toArray, List.getElem?_cons_succ, List.getElem?_cons_zero]; rfl) (by kernel_rfl) (by kernel_rfl) (by kernel_rfl) (by exact fun _ _ _ h => h) (Or.inl ⟨by rfl, ?_⟩) (by assumption) ?_
              rotate_left
              · (intro w hSw; (try dsimp only at hSw); go_simp); first | done | with_reducible rfl
              try simp only [Act.put, List.setIfInBounds_toArray, List.set_cons_zero, List.set_cons_succ]
              refine wpAnyH_take (i := 8) (v := ?_) (by simp only [List.getElem?_toArray, List.getElem?_cons_succ, List.getElem?_cons_zero]; rfl) (by kernel_rfl) (by kernel_rfl) (by kernel_rfl) (by exact fun _ _ _ h => h) (Or.inl ⟨by rfl, ?_⟩) (by assumption) ?_
              rotate_left
              · (intro w hSw; (try dsimp only at hSw); go_simp); first | done | with_reducible rfl
              try simp only [Act.put, List.setIfInBounds_toArray, List.set_cons_zero, List.set_cons_succ]
              refine wpAnyH_take (i := 10) (v := ?_) (by simp only [List.getElem?_toArray, List.getElem?_cons_succ, List.getElem?_cons_zero]; rfl) (by kernel_rfl) (by kernel_rfl) (by kernel_rfl) (by exact fun _ _ _ h => h) (Or.inl ⟨by rfl, ?_⟩) (by assumption) ?_
              rotate_left
              · (intro w hSw; (try dsimp only at hSw); go_simp); first | done | with_reducible rfl
              try simp only [Act.put, List.setIfInBounds_toArray, List.set_cons_zero, List.set_cons_succ]
              refine wpAnyH_take (i := 11) (v := ?_) (by simp only [List.getElem?_toArray, List.getElem?_cons_succ, List.getElem?_cons_zero]; rfl) (by kernel_rfl) (by kernel_rfl) (by kernel_rfl) (by exact fun _ _ _ h => h) (Or.inl ⟨by rfl, ?_⟩) (by assumption) ?_
              rotate_left
              · (intro w hSw; (try dsimp only at hSw); go_simp); first | done | with_reducible rfl
              try simp only [Act.put, List.setIfInBounds_toArray, List.set_cons_zero, List.set_cons_succ]
              refine wpAnyH_ready (rs := [9, 12]) (by kernel_rfl) (by simp) ?_
              refine AllReadyH.cons (by simp only [List.getElem?_toArray, List.getElem?_cons_succ, List.getElem?_cons_zero]; rfl) (fun K hK => ?_) (AllReadyH.cons (by simp only [List.getElem?_toArray, List.getElem?_cons_succ, List.getElem?_cons_zero]; rfl) (fun K hK => ?_) AllReadyH.nil)
              · obtain ⟨Ao, co, Bo, do_, g0, g1, g2, mo1, mo2, mo3, mo4, mo5, mo6⟩ := row.get P (by omega)
                rw [← HQ0.out] at g0 g1 g2 mo1 mo2 mo3 mo5
                go_simp
                clear g0 g1 g2
                refine hK.out _ _ (HS.out _ rx ry) (fun hHeld => ?_)
                clear hK K
                try simp only [Act.put, List.setIfInBounds_toArray, List.set_cons_zero, List.set_cons_succ]
                refine wpAnyH_ready (rs := [12]) (by kernel_rfl) (by simp) ?_
                refine AllReadyH.cons (by simp only [List.getElem?_toArray, List.getElem?_cons_succ, List.getElem?_cons_zero]; rfl) (fun K hK => ?_) AllReadyH.nil
                go_simp
                obtain ⟨w4, hw⟩ : ∃ W, W = World.alloc w3 (.cells #[.bool (s5), .slice (A5) (n5) (c5), .slice (A6) (n6) (c6), .bool (s7), .slice (A7) (n7) (c7), .slice (A8) (n8) (c8)] 32) := ⟨_, rfl⟩
                have kb : Below w3.heap.size w3 w4 := by rw [hw]; exact below_one _ _
                have tbp : RatTab w4 w4.heap.size (some ⟨w3.heap.size, 0, none⟩) 2 (pairR (x) (y)) NN := RatTab.letter hw (ratTab_pair 32 hx hy)
                rw [← hw]
                clear hw
                replace row := row.on kb
                replace hB := onS hB kb
                replace hx := hx.on kb
                replace hy := hy.on kb
                replace rx := rowIs_on rx kb
                replace ry := rowIs_on ry kb
                replace mo1 := mo1.on kb
                replace mo2 := mo2.on kb
                clear kb
                obtain ⟨gp, hg⟩ : ∃ g, g = w3.heap.size := ⟨_, rfl⟩
                rw [← hg] at tbp ⊢
                clear hg
                refine hK.out _ _ (HS.out _ rx ry) (fun hHeld => ?_)
                clear hK K
                try simp only [Act.put, List.setIfInBounds_toArray, List.set_cons_zero, List.set_cons_succ]
                refine wpAnyH_ready (rs := [13]) (by kernel_rfl) (by simp) ?_
                refine AllReadyH.cons (by simp only [List.getElem?_toArray, List.getElem?_cons_succ, List.getElem?_cons_zero]; rfl) (fun K hK => ?_) AllReadyH.nil
                go_simp
                go_wp2_with fail
                refine (ratMul_tab tbp (by omega) (by omega) (hrsx.mono (by omega)) (hrsy.mono (by omega)) (hsxy.mono (by omega))).mono ?_
                rintro e w5 ⟨Am, cm, Bm, dm, rfl, mm1, mm2, mm3, mm4, mm5, mm6, kb⟩
                replace row := row.on kb
                replace hB := onS hB kb
                replace hx := hx.on kb
                replace hy := hy.on kb
                replace rx := rowIs_on rx kb
                replace ry := rowIs_on ry kb
                replace mo1 := mo1.on kb
                replace mo2 := mo2.on kb
                replace tbp := tbp.on kb
                clear kb
                clear tbp
                obtain ⟨xy, hxy⟩ : ∃ p, p = x * y := ⟨_, rfl⟩
                rw [← hxy] at mm1 mm2 mm3 mm5 hsxy hsz2 ⊢
                have HXY := hid hxy
                clear hxy
                refine hK.out _ _ (HS.out _ rx ry) (fun hHeld => ?_)
                clear hK K
                try simp only [Act.put, List.setIfInBounds_toArray, List.set_cons_zero, List.set_cons_succ]
                refine wpAnyH_ready (rs := [14]) (by kernel_rfl) (by simp) ?_
                refine AllReadyH.cons (by simp only [List.getElem?_toArray, List.getElem?_cons_succ, List.getElem?_cons_zero]; rfl) (fun K hK => ?_) AllReadyH.nil
                go_simp
                obtain ⟨w6, hw⟩ : ∃ W, W = World.alloc w5 (.cells #[.bool (rneg (q0)), .slice (Ao) (dl (q0).num.natAbs) (co), .slice (Bo) (dl (q0).den) (do_), .bool (rneg (xy)), .slice (Am) (dl (xy).num.natAbs) (cm), .slice (Bm) (dl (xy).den) (dm)] 32) := ⟨_, rfl⟩
                have kb : Below w5.heap.size w5 w6 := by rw [hw]; exact below_one _ _
                have tbq : RatTab w6 w6.heap.size (some ⟨w5.heap.size, 0, none⟩) 2 (pairR (q0) (xy)) NN := RatTab.letter hw (ratTab_pair 32 (RatOk.raw ⟨Ao, co, Bo, do_, rfl, mo1, mo2, mo3, mo4, mo5, mo6⟩ (hsz1.mono (by omega))) (RatOk.raw ⟨Am, cm, Bm, dm, rfl, mm1, mm2, mm3, mm4, mm5, mm6⟩ (hsxy.mono (by omega))))
                rw [← hw]
                clear hw
                replace row := row.on kb
                replace hB := onS hB kb
                replace hx := hx.on kb
                replace hy := hy.on kb
                replace rx := rowIs_on rx kb
                replace ry := rowIs_on ry kb
                replace mo1 := mo1.on kb
                replace mo2 := mo2.on kb
                replace mm1 := mm1.on kb
                replace mm2 := mm2.on kb
                clear kb
                obtain ⟨gq, hg⟩ : ∃ g, g = w5.heap.size := ⟨_, rfl⟩
                rw [← hg] at tbq ⊢
                clear hg
                refine hK.out _ _ (HS.out _ rx ry) (fun hHeld => ?_)
                clear hK K
                try simp only [Act.put, List.setIfInBounds_toArray, List.set_cons_zero, List.set_cons_succ]
                refine wpAnyH_ready (rs := [15]) (by kernel_rfl) (by simp) ?_
                refine AllReadyH.cons (by simp only [List.getElem?_toArray, List.getElem?_cons_succ, List.getElem?_cons_zero]; rfl) (fun K hK => ?_) AllReadyH.nil
                go_simp
                go_wp2_with fail
                refine (ratAdd_tab tbq (by omega) (by omega) (hsz1.mono (by omega)) (hsxy.mono (by omega)) (hsz2.mono (by omega))).mono ?_
                rintro e w7 ⟨Ap, cp, Bp, dp, rfl, mp1, mp2, mp3, mp4, mp5, mp6, kb⟩
                replace row := row.on kb
                replace hB := onS hB kb
                replace hx := hx.on kb
                replace hy := hy.on kb
                replace rx := rowIs_on rx kb
                replace ry := rowIs_on ry kb
                replace mo1 := mo1.on kb
                replace mo2 := mo2.on kb
                replace mm1 := mm1.on kb
                replace mm2 := mm2.on kb
                replace tbq := tbq.on kb
                clear kb
                clear tbq
                obtain ⟨q1, hq1⟩ : ∃ z, z = q0 + xy := ⟨_, rfl⟩
                rw [← hq1] at mp1 mp2 mp3 mp5 hsz2 ⊢
                have HQ1 := hid hq1
                clear hq1
                clear mo1 mo2 mo3 mo4 mo5 mo6 mm1 mm2 mm3 mm4 mm5 mm6
                refine hK.out _ _ (HS.out _ rx ry) (fun hHeld => ?_)
                clear hK K
                try simp only [Act.put, List.setIfInBounds_toArray, List.set_cons_zero, List.set_cons_succ]
                refine wpAnyH_take (i := 16) (v := ?_) (by simp only [List.getElem?_toArray, List.getElem?_cons_succ, List.getElem?_cons_zero]; rfl) (by kernel_rfl) (by kernel_rfl) (by kernel_rfl) (by exact fun _ _ _ h => h) (Or.inl ⟨by rfl, ?_⟩) (by assumption) ?_
                rotate_left
                · (intro w hSw; (try dsimp only at hSw); go_simp); first | done | with_reducible rfl
                try simp only [Act.put, List.setIfInBounds_toArray, List.set_cons_zero, List.set_cons_succ]
                obtain ⟨o0, o1, o2, y0, y1, y2⟩ := row.old (P) (by omega)
                have z0 := row.froz (P * 3)
                have z1 := row.froz (P * 3 + 1)
                have z2 := row.froz (P * 3 + 2)
                have hsz := hB.size
                refine wpAnyH_ready (rs := [17]) (by kernel_rfl) (by simp) ?_
                refine AllReadyH.cons (by simp only [List.getElem?_toArray, List.getElem?_cons_succ, List.getElem?_cons_zero]; rfl) (fun K hK => ?_) AllReadyH.nil
                go_simp
                generalize hw3 : World.setCell _ _ _ = w8
                have hst : RowPut w7 g j j P S q1 w8 := by rw [← hw3]; exact rowPut row (by omega) (by omega) mp1 mp2 mp3 mp4 mp5 mp6
                clear hw3 mp1 mp2 mp3 mp4 mp5 mp6 hx hy
                replace row := hst.row
                rw [show max j (P + 1) = j by omega] at row
                replace hB := hst.below hB hgB hsz
                replace rx := rowIs_grown rx hst.grown (by omega)
                replace ry := rowIs_grown ry hst.grown (by omega)
                clear hst
                refine hK.out _ _ (HS.out _ rx ry) (fun hHeld => ?_)
                clear hK K
                try simp only [Act.put, List.setIfInBounds_toArray, List.set_cons_zero, List.set_cons_succ]
                refine wpAnyH_done (by kernel_rfl) ?_ _
                clear hHeld
                replace row := row.put' (show updR S P q1 = inP a b i (outP a b m' i) (k + 1) by rw [HNX.out, HQ1.out, HXY.out])
                clear y0 y1 y2 z0 z1 z2 hsz HS HNX HQ1 HXY HQ0 hsz1 hsz2 hsxy ry hikw hikw2 hik hikt
                go_wp2
                go_roundg (gk - 1)
                case measure => omega
                case rel => exact ⟨k + 1, by go_num, by omega, by omega, row, rx, hB⟩
              · go_simp
                obtain ⟨w4, hw⟩ : ∃ W, W = World.alloc w3 (.cells #[.bool (s5), .slice (A5) (n5) (c5), .slice (A6) (n6) (c6), .bool (s7), .slice (A7) (n7) (c7), .slice (A8) (n8) (c8)] 32) := ⟨_, rfl⟩
                have kb : Below w3.heap.size w3 w4 := by rw [hw]; exact below_one _ _
                have tbp : RatTab w4 w4.heap.size (some ⟨w3.heap.size, 0, none⟩) 2 (pairR (x) (y)) NN := RatTab.letter hw (ratTab_pair 32 hx hy)
                rw [← hw]
                clear hw
                replace row := row.on kb
                replace hB := onS hB kb
                replace hx := hx.on kb
                replace hy := hy.on kb
                replace rx := rowIs_on rx kb
                replace ry := rowIs_on ry kb
                clear kb
                obtain ⟨gp, hg⟩ : ∃ g, g = w3.heap.size := ⟨_, rfl⟩
                rw [← hg] at tbp ⊢
                clear hg
                refine hK.out _ _ (HS.out _ rx ry) (fun hHeld => ?_)
                clear hK K
                try simp only [Act.put, List.setIfInBounds_toArray, List.set_cons_zero, List.set_cons_succ]
                refine wpAnyH_ready (rs := [9, 13]) (by kernel_rfl) (by simp) ?_
                refine AllReadyH.cons (by simp only [List.getElem?_toArray, List.getElem?_cons_succ, List.getElem?_cons_zero]; rfl) (fun K hK => ?_) (AllReadyH.cons (by simp only [List.getElem?_toArray, List.getElem?_cons_succ, List.getElem?_cons_zero]; rfl) (fun K hK => ?_) AllReadyH.nil)
                · obtain ⟨Ao, co, Bo, do_, g0, g1, g2, mo1, mo2, mo3, mo4, mo5, mo6⟩ := row.get P (by omega)
                  rw [← HQ0.out] at g0 g1 g2 mo1 mo2 mo3 mo5
                  go_simp
                  clear g0 g1 g2
                  refine hK.out _ _ (HS.out _ rx ry) (fun hHeld => ?_)
                  clear hK K
                  try simp only [Act.put, List.setIfInBounds_toArray, List.set_cons_zero, List.set_cons_succ]
                  refine wpAnyH_ready (rs := [13]) (by kernel_rfl) (by simp) ?_
                  refine AllReadyH.cons (by simp only [List.getElem?_toArray, List.getElem?_cons_succ, List.getElem?_cons_zero]; rfl) (fun K hK => ?_) AllReadyH.nil
                  go_simp
                  go_wp2_with fail
                  refine (ratMul_tab tbp (by omega) (by omega) (hrsx.mono (by omega)) (hrsy.mono (by omega)) (hsxy.mono (by omega))).mono ?_
                  rintro e w5 ⟨Am, cm, Bm, dm, rfl, mm1, mm2, mm3, mm4, mm5, mm6, kb⟩
                  replace row := row.on kb
                  replace hB := onS hB kb
                  replace hx := hx.on kb
                  replace hy := hy.on kb
                  replace rx := rowIs_on rx kb
                  replace ry := rowIs_on ry kb
                  replace tbp := tbp.on kb
                  replace mo1 := mo1.on kb
                  replace mo2 := mo2.on kb
                  clear kb
                  clear tbp
                  obtain ⟨xy, hxy⟩ : ∃ p, p = x * y := ⟨_, rfl⟩
                  rw [← hxy] at mm1 mm2 mm3 mm5 hsxy hsz2 ⊢
                  have HXY := hid hxy
                  clear hxy
                  refine hK.out _ _ (HS.out _ rx ry) (fun hHeld => ?_)
                  clear hK K
                  try simp only [Act.put, List.setIfInBounds_toArray, List.set_cons_zero, List.set_cons_succ]
                  refine wpAnyH_ready (rs := [14]) (by kernel_rfl) (by simp) ?_
                  refine AllReadyH.cons (by simp only [List.getElem?_toArray, List.getElem?_cons_succ, List.getElem?_cons_zero]; rfl) (fun K hK => ?_) AllReadyH.nil
                  go_simp
                  obtain ⟨w6, hw⟩ : ∃ W, W = World.alloc w5 (.cells #[.bool (rneg (q0)), .slice (Ao) (dl (q0).num.natAbs) (co), .slice (Bo) (dl (q0).den) (do_), .bool (rneg (xy)), .slice (Am) (dl (xy).num.natAbs) (cm), .slice (Bm) (dl (xy).den) (dm)] 32) := ⟨_, rfl⟩
                  have kb : Below w5.heap.size w5 w6 := by rw [hw]; exact below_one _ _
                  have tbq : RatTab w6 w6.heap.size (some ⟨w5.heap.size, 0, none⟩) 2 (pairR (q0) (xy)) NN := RatTab.letter hw (ratTab_pair 32 (RatOk.raw ⟨Ao, co, Bo, do_, rfl, mo1, mo2, mo3, mo4, mo5, mo6⟩ (hsz1.mono (by omega))) (RatOk.raw ⟨Am, cm, Bm, dm, rfl, mm1, mm2, mm3, mm4, mm5, mm6⟩ (hsxy.mono (by omega))))
                  rw [← hw]
                  clear hw
                  replace row := row.on kb
                  replace hB := onS hB kb
                  replace hx := hx.on kb
                  replace hy := hy.on kb
                  replace rx := rowIs_on rx kb
                  replace ry := rowIs_on ry kb
                  replace mo1 := mo1.on kb
                  replace mo2 := mo2.on kb
                  replace mm1 := mm1.on kb
                  replace mm2 := mm2.on kb
                  clear kb
                  obtain ⟨gq, hg⟩ : ∃ g, g = w5.heap.size := ⟨_, rfl⟩
                  rw [← hg] at tbq ⊢
                  clear hg
                  refine hK.out _ _ (HS.out _ rx ry) (fun hHeld => ?_)
                  clear hK K
                  try simp only [Act.put, List.setIfInBounds_toArray, List.set_cons_zero, List.set_cons_succ]
                  refine wpAnyH_ready (rs := [15]) (by kernel_rfl) (by simp) ?_
                  refine AllReadyH.cons (by simp only [List.getElem?_toArray, List.getElem?_cons_succ, List.getElem?_cons_zero]; rfl) (fun K hK => ?_) AllReadyH.nil
                  go_simp
                  go_wp2_with fail
                  refine (ratAdd_tab tbq (by omega) (by omega) (hsz1.mono (by omega)) (hsxy.mono (by omega)) (hsz2.mono (by omega))).mono ?_
                  rintro e w7 ⟨Ap, cp, Bp, dp, rfl, mp1, mp2, mp3, mp4, mp5, mp6, kb⟩
                  replace row := row.on kb
                  replace hB := onS hB kb
                  replace hx := hx.on kb
                  replace hy := hy.on kb
                  replace rx := rowIs_on rx kb
                  replace ry := rowIs_on ry kb
                  replace mo1 := mo1.on kb
                  replace mo2 := mo2.on kb
                  replace mm1 := mm1.on kb
                  replace mm2 := mm2.on kb
                  replace tbq := tbq.on kb
                  clear kb
                  clear tbq
                  obtain ⟨q1, hq1⟩ : ∃ z, z = q0 + xy := ⟨_, rfl⟩
                  rw [← hq1] at mp1 mp2 mp3 mp5 hsz2 ⊢
                  have HQ1 := hid hq1
                  clear hq1
                  clear mo1 mo2 mo3 mo4 mo5 mo6 mm1 mm2 mm3 mm4 mm5 mm6
                  refine hK.out _ _ (HS.out _ rx ry) (fun hHeld => ?_)
                  clear hK K
                  try simp only [Act.put, List.setIfInBounds_toArray, List.set_cons_zero, List.set_cons_succ]
                  refine wpAnyH_take (i := 16) (v := ?_) (by simp only [List.getElem?_toArray, List.getElem?_cons_succ, List.getElem?_cons_zero]; rfl) (by kernel_rfl) (by kernel_rfl) (by kernel_rfl) (by exact fun _ _ _ h => h) (Or.inl ⟨by rfl, ?_⟩) (by assumption) ?_
                  rotate_left
                  · (intro w hSw; (try dsimp only at hSw); go_simp); first | done | with_reducible rfl
                  try simp only [Act.put, List.setIfInBounds_toArray, List.set_cons_zero, List.set_cons_succ]
                  obtain ⟨o0, o1, o2, y0, y1, y2⟩ := row.old (P) (by omega)
                  have z0 := row.froz (P * 3)
                  have z1 := row.froz (P * 3 + 1)
                  have z2 := row.froz (P * 3 + 2)
                  have hsz := hB.size
                  refine wpAnyH_ready (rs := [17]) (by kernel_rfl) (by simp) ?_
                  refine AllReadyH.cons (by simp only [List.getElem?_toArray, List.getElem?_cons_succ, List.getElem?_cons_zero]; rfl) (fun K hK => ?_) AllReadyH.nil
                  go_simp
                  generalize hw3 : World.setCell _ _ _ = w8
                  have hst : RowPut w7 g j j P S q1 w8 := by rw [← hw3]; exact rowPut row (by omega) (by omega) mp1 mp2 mp3 mp4 mp5 mp6
                  clear hw3 mp1 mp2 mp3 mp4 mp5 mp6 hx hy
                  replace row := hst.row
                  rw [show max j (P + 1) = j by omega] at row
                  replace hB := hst.below hB hgB hsz
                  replace rx := rowIs_grown rx hst.grown (by omega)
                  replace ry := rowIs_grown ry hst.grown (by omega)
                  clear hst
                  refine hK.out _ _ (HS.out _ rx ry) (fun hHeld => ?_)
                  clear hK K
                  try simp only [Act.put, List.setIfInBounds_toArray, List.set_cons_zero, List.set_cons_succ]
                  refine wpAnyH_done (by kernel_rfl) ?_ _
                  clear hHeld
                  replace row := row.put' (show updR S P q1 = inP a b i (outP a b m' i) (k + 1) by rw [HNX.out, HQ1.out, HXY.out])
                  clear y0 y1 y2 z0 z1 z2 hsz HS HNX HQ1 HXY HQ0 hsz1 hsz2 hsxy ry hikw hikw2 hik hikt
                  go_wp2
                  go_roundg (gk - 1)
                  case measure => omega
                  case rel => exact ⟨k + 1, by go_num, by omega, by omega, row, rx, hB⟩
                · go_simp
                  go_wp2_with fail
                  refine (ratMul_tab tbp (by omega) (by omega) (hrsx.mono (by omega)) (hrsy.mono (by omega)) (hsxy.mono (by omega))).mono ?_
                  rintro e w5 ⟨Am, cm, Bm, dm, rfl, mm1, mm2, mm3, mm4, mm5, mm6, kb⟩
                  replace row := row.on kb
                  replace hB := onS hB kb
                  replace hx := hx.on kb
                  replace hy := hy.on kb
                  replace rx := rowIs_on rx kb
                  replace ry := rowIs_on ry kb
                  replace tbp := tbp.on kb
                  clear kb
                  clear tbp
                  obtain ⟨xy, hxy⟩ : ∃ p, p = x * y := ⟨_, rfl⟩
                  rw [← hxy] at mm1 mm2 mm3 mm5 hsxy hsz2 ⊢
                  have HXY := hid hxy
                  clear hxy
                  refine hK.out _ _ (HS.out _ rx ry) (fun hHeld => ?_)
                  clear hK K
                  try simp only [Act.put, List.setIfInBounds_toArray, List.set_cons_zero, List.set_cons_succ]
                  refine wpAnyH_ready (rs := [9]) (by kernel_rfl) (by simp) ?_
                  refine AllReadyH.cons (by simp only [List.getElem?_toArray, List.getElem?_cons_succ, List.getElem?_cons_zero]; rfl) (fun K hK => ?_) AllReadyH.nil
                  obtain ⟨Ao, co, Bo, do_, g0, g1, g2, mo1, mo2, mo3, mo4, mo5, mo6⟩ := row.get P (by omega)
                  rw [← HQ0.out] at g0 g1 g2 mo1 mo2 mo3 mo5
                  go_simp
                  clear g0 g1 g2
                  refine hK.out _ _ (HS.out _ rx ry) (fun hHeld => ?_)
                  clear hK K
                  try simp only [Act.put, List.setIfInBounds_toArray, List.set_cons_zero, List.set_cons_succ]
                  refine wpAnyH_ready (rs := [14]) (by kernel_rfl) (by simp) ?_
                  refine AllReadyH.cons (by simp only [List.getElem?_toArray, List.getElem?_cons_succ, List.getElem?_cons_zero]; rfl) (fun K hK => ?_) AllReadyH.nil
                  go_simp
                  obtain ⟨w6, hw⟩ : ∃ W, W = World.alloc w5 (.cells #[.bool (rneg (q0)), .slice (Ao) (dl (q0).num.natAbs) (co), .slice (Bo) (dl (q0).den) (do_), .bool (rneg (xy)), .slice (Am) (dl (xy).num.natAbs) (cm), .slice (Bm) (dl (xy).den) (dm)] 32) := ⟨_, rfl⟩
                  have kb : Below w5.heap.size w5 w6 := by rw [hw]; exact below_one _ _
                  have tbq : RatTab w6 w6.heap.size (some ⟨w5.heap.size, 0, none⟩) 2 (pairR (q0) (xy)) NN := RatTab.letter hw (ratTab_pair 32 (RatOk.raw ⟨Ao, co, Bo, do_, rfl, mo1, mo2, mo3, mo4, mo5, mo6⟩ (hsz1.mono (by omega))) (RatOk.raw ⟨Am, cm, Bm, dm, rfl, mm1, mm2, mm3, mm4, mm5, mm6⟩ (hsxy.mono (by omega))))
                  rw [← hw]
                  clear hw
                  replace row := row.on kb
                  replace hB := onS hB kb
                  replace hx := hx.on kb
                  replace hy := hy.on kb
                  replace rx := rowIs_on rx kb
                  replace ry := rowIs_on ry kb
                  replace mm1 := mm1.on kb
                  replace mm2 := mm2.on kb
                  replace mo1 := mo1.on kb
                  replace mo2 := mo2.on kb
                  clear kb
                  obtain ⟨gq, hg⟩ : ∃ g, g = w5.heap.size := ⟨_, rfl⟩
                  rw [← hg] at tbq ⊢
                  clear hg
                  refine hK.out _ _ (HS.out _ rx ry) (fun hHeld => ?_)
                  clear hK K
                  try simp only [Act.put, List.setIfInBounds_toArray, List.set_cons_zero, List.set_cons_succ]
                  refine wpAnyH_ready (rs := [15]) (by kernel_rfl) (by simp) ?_
                  refine AllReadyH.cons (by simp only [List.getElem?_toArray, List.getElem?_cons_succ, List.getElem?_cons_zero]; rfl) (fun K hK => ?_) AllReadyH.nil
                  go_simp
                  go_wp2_with fail
                  refine (ratAdd_tab tbq (by omega) (by omega) (hsz1.mono (by omega)) (hsxy.mono (by omega)) (hsz2.mono (by omega))).mono ?_
                  rintro e w7 ⟨Ap, cp, Bp, dp, rfl, mp1, mp2, mp3, mp4, mp5, mp6, kb⟩
                  replace row := row.on kb
                  replace hB := onS hB kb
                  replace hx := hx.on kb
                  replace hy := hy.on kb
                  replace rx := rowIs_on rx kb
                  replace ry := rowIs_on ry kb
                  replace mm1 := mm1.on kb
                  replace mm2 := mm2.on kb
                  replace mo1 := mo1.on kb
                  replace mo2 := mo2.on kb
                  replace tbq := tbq.on kb
                  clear kb
                  clear tbq
                  obtain ⟨q1, hq1⟩ : ∃ z, z = q0 + xy := ⟨_, rfl⟩
                  rw [← hq1] at mp1 mp2 mp3 mp5 hsz2 ⊢
                  have HQ1 := hid hq1
                  clear hq1
                  clear mo1 mo2 mo3 mo4 mo5 mo6 mm1 mm2 mm3 mm4 mm5 mm6
                  refine hK.out _ _ (HS.out _ rx ry) (fun hHeld => ?_)
                  clear hK K
                  try simp only [Act.put, List.setIfInBounds_toArray, List.set_cons_zero, List.set_cons_succ]
                  refine wpAnyH_take (i := 16) (v := ?_) (by simp only [List.getElem?_toArray, List.getElem?_cons_succ, List.getElem?_cons_zero]; rfl) (by kernel_rfl) (by kernel_rfl) (by kernel_rfl) (by exact fun _ _ _ h => h) (Or.inl ⟨by rfl, ?_⟩) (by assumption) ?_
                  rotate_left
                  · (intro w hSw; (try dsimp only at hSw); go_simp); first | done | with_reducible rfl
                  try simp only [Act.put, List.setIfInBounds_toArray, List.set_cons_zero, List.set_cons_succ]
                  obtain ⟨o0, o1, o2, y0, y1, y2⟩ := row.old (P) (by omega)
                  have z0 := row.froz (P * 3)
                  have z1 := row.froz (P * 3 + 1)
                  have z2 := row.froz (P * 3 + 2)
                  have hsz := hB.size
                  refine wpAnyH_ready (rs := [17]) (by kernel_rfl) (by simp) ?_
                  refine AllReadyH.cons (by simp only [List.getElem?_toArray, List.getElem?_cons_succ, List.getElem?_cons_zero]; rfl) (fun K hK => ?_) AllReadyH.nil
                  go_simp
                  generalize hw3 : World.setCell _ _ _ = w8
                  have hst : RowPut w7 g j j P S q1 w8 := by rw [← hw3]; exact rowPut row (by omega) (by omega) mp1 mp2 mp3 mp4 mp5 mp6
                  clear hw3 mp1 mp2 mp3 mp4 mp5 mp6 hx hy
                  replace row := hst.row
                  rw [show max j (P + 1) = j by omega] at row
                  replace hB := hst.below hB hgB hsz
                  replace rx := rowIs_grown rx hst.grown (by omega)
                  replace ry := rowIs_grown ry hst.grown (by omega)
                  clear hst
                  refine hK.out _ _ (HS.out _ rx ry) (fun hHeld => ?_)
                  clear hK K
                  try simp only [Act.put, List.setIfInBounds_toArray, List.set_cons_zero, List.set_cons_succ]
                  refine wpAnyH_done (by kernel_rfl) ?_ _
                  clear hHeld
                  replace row := row.put' (show updR S P q1 = inP a b i (outP a b m' i) (k + 1) by rw [HNX.out, HQ1.out, HXY.out])
                  clear y0 y1 y2 z0 z1 z2 hsz HS HNX HQ1 HXY HQ0 hsz1 hsz2 hsxy ry hikw hikw2 hik hikt
                  go_wp2
                  go_roundg (gk - 1)
                  case measure => omega
                  case rel => exact ⟨k + 1, by go_num, by omega, by omega, row, rx, hB⟩
            · obtain rfl : k = m' := by omega
              have hlk' : ¬ (k : Int) < (k : Int) := by omega
              replace row := row.put' (show inP a b i (outP a b k i) k = outP a b k (i + 1) from rfl)
              go_wp2
              go_roundg (gI - 1)
              case measure => omega
              case rel => exact ⟨i + 1, by go_num, by omega, by omega, row, hB⟩
        · obtain rfl : i = m := by omega
          have hlt' : ¬ (i : Int) < (i : Int) := by omega
          have hl := row.list.tab (fun p _ => hSO.out i (by omega) p)
          go_wp2_with fail
          refine (chCanon_any (some ⟨g, 0, none⟩) j j (K + 1) (outP a b m' i) _ hl (by omega) (by omega)).mono ?_
          rintro e w2 ⟨Ar, cr, rfl, e1, e2, e3, kb⟩
          replace hB := onS hB kb
          clear kb hl row
          obtain ⟨cl, hcl⟩ : ∃ cl, cl = clen (outP a b m' i) j := ⟨_, rfl⟩
          rw [← hcl] at e1 e3 ⊢
          have HCL := hid hcl
          clear hcl
          go_wp2
          go_ret
          exact ⟨_, _, by rw [HCL.out]; rfl, by rw [HCL.out] at e1; exact e1, e2, by rw [HCL.out] at e3; exact e3, hB⟩
end Go.Proofs.Ytlfmnaepcndhiaa
