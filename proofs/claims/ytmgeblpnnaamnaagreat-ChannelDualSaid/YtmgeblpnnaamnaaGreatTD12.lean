/- Merged texts of a claim: PMulAll, RefEval, PolyC, WtsAll, PatAll, UndAll, DualPl. -/
import Derived.Test.YtmgeblpnnaamnaaGreatTD1
import Derived.Test.YtmgeblpnnaamnaaGreatTD3
import Derived.Test.YtmgeblpnnaamnaaGreatTD5
import Derived.Test.YtmgeblpnnaamnaaGreatTD6
import Derived.Test.YtmgeblpnnaamnaaGreatTD11
namespace Go.Proofs.YtmgeblpnnaamnaaGreat
open Go.RowKit
/-- Row i of the product, its first j entries added. -/
def inP (a b : Nat → Rat) (i : Nat) (S : Nat → Rat) : Nat → Nat → Rat
 | 0 => S
 | j + 1 => updR (inP a b i S j) (i + j) (inP a b i S j (i + j) + a i * b j)
def outP (a b : Nat → Rat) (m' : Nat) : Nat → Nat → Rat
 | 0 => fun _ => 0
 | i + 1 => inP a b i (outP a b m' i) m'
theorem inP_ge {a b : Nat → Rat} {i : Nat} {S : Nat → Rat} {j p : Nat} (h : i + j ≤ p ∨ p < i) : inP a b i S j p = S p := by
 induction j with
 | zero => rfl
 | succ j ih =>
  show updR _ _ _ p = _
  unfold updR
  rw [if_neg (by omega)]
  exact ih (by omega)
theorem rsz_inP {a b : Nat → Rat} {i N K m m' : Nat} {S : Nat → Rat} (h1 : ∀ k, k < m → rsz (a k) N) (h2 : ∀ k, k < m' → rsz (b k) N) (hi : i < m) (hS : ∀ p, rsz (S p) K) :
  ∀ j, j ≤ m' → ∀ p, rsz (inP a b i S j p) (K + (N + N) + 1) := by
 intro j
 induction j with
 | zero => exact fun _ p => (hS p).mono (by omega)
 | succ j ih =>
  intro hj p
  show rsz (updR _ _ _ p) _
  unfold updR
  split
  ·rw [inP_ge (by omega)]
   exact rsz_add (hS _) (rsz_mul (h1 i hi) (h2 j (by omega)))
  ·exact ih (by omega) p
theorem rsz_outP {a b : Nat → Rat} {N m m' : Nat} (h1 : ∀ k, k < m → rsz (a k) N) (h2 : ∀ k, k < m' → rsz (b k) N) :
  ∀ i, i ≤ m → ∀ p, rsz (outP a b m' i p) (1 + i * (N + N + 1)) := by
 intro i
 induction i with
 | zero => exact fun _ p => by show rsz (0 : Rat) (1 + 0 * (N + N + 1)); rw [Nat.zero_mul]; exact rsz_zero
 | succ i ih =>
  intro hi p
  have := rsz_inP h1 h2 (i := i) (by omega) (ih (by omega)) m' (Nat.le_refl _) p
  rw [Nat.add_mul, Nat.one_mul]
  exact this.mono (by omega)
/-- The product. -/
def mulP (a : Nat → Rat) (m : Nat) (b : Nat → Rat) (m' : Nat) : Nat → Rat := outP a b m' m
theorem RowOk.put' {w : World} {g M k : Nat} {rs rs' : Nat → Rat} (h : RowOk w g M k rs) (e : rs = rs') : RowOk w g M k rs' := e ▸ h
set_option maxRecDepth 100000 in
set_option maxHeartbeats 16000000 in
theorem chPMul_any (T T' : Option Addr) (m c m' c' N K : Nat) (a b : Nat → Rat) (w : World) (h : RatTab w w.heap.size T m a N) (h' : RatTab w w.heap.size T' m' b N) (hm : m ≤ 524288) (hm' : m' ≤ 524288) (hK : m * (N + N + 1) ≤ K) (hKN : K + N + N + 5 ≤ 33554432) (hra : Hid (∀ k, k < m → rsz (a k) N)) (hrb : Hid (∀ k, k < m' → rsz (b k) N)) :
  Calls Tryz.prog 71 #[.slice T m c, .slice T' m' c'] w (PolyPost (clen (mulP a m b m') (m + m')) (mulP a m b m') w) := by
 obtain ⟨NN, hNN⟩ : ∃ n, n = K + N + N + 5 := ⟨_, rfl⟩
 have hn1 : NN ≤ 33554432 := by omega
 have hn2 : K + N + N + 5 ≤ NN := by omega
 clear hNN
 replace h := h.mono (show N ≤ NN by omega)
 replace h' := h'.mono (show N ≤ NN by omega)
 have hSO : Hid (∀ i, i ≤ m → ∀ p, rsz (outP a b m' i p) (K + 1)) := fun i hi p => (rsz_outP hra.out hrb.out i hi p).mono (by have : i * (N + N + 1) ≤ m * (N + N + 1) := Nat.mul_le_mul_right _ hi; omega)
 have hSI : Hid (∀ i, i < m → ∀ j, j ≤ m' → ∀ p, rsz (inP a b i (outP a b m' i) j p) (K + 1 + (N + N) + 1)) := fun i hi j hj p => rsz_inP hra.out hrb.out hi (hSO.out i (by omega)) j hj p
 have hwr1 : IntKind.i64.wrap ((m : Int) + (m' : Int)) = ((m + m' : Nat) : Int) := by rw [IntWalk.i64_in _ (by omega)]; omega
 have hwr2 : (m : Int) + (m' : Int) = ((m + m' : Nat) : Int) := by omega
 obtain ⟨M, hM⟩ : ∃ M, M = m + m' := ⟨_, rfl⟩
 rw [← hM] at hwr1 hwr2 ⊢
 have hMle : M ≤ 1048576 := by omega
 have hM1 : m + m' ≤ M := by omega
 have HM := hid hM
 clear hM
 have hmk := fun W => run_makeRat M hMle W
 have kb1 := below_one w (.cells (madeCells #[.bool false, .slice none 0 0, .slice none 0 0] (M * 3)) 31)
 have row := rowOk_made w M (fun _ => 0)
 have hB := kb1
 clear kb1
 have hm0 : (0 : Int) ≤ (m : Int) := by omega
 have hm0' : (0 : Int) ≤ (m' : Int) := by omega
 go_enter Tryz.func71, Tryz.ntmps71
 go_wp2
 obtain ⟨w1, hw1⟩ : ∃ W, W = w.alloc (.cells (madeCells #[.bool false, .slice none 0 0, .slice none 0 0] (M * 3)) 31) := ⟨_, rfl⟩
 obtain ⟨g, hg⟩ : ∃ g, g = w.heap.size := ⟨_, rfl⟩
 rw [← hw1, ← hg]
 rw [← hw1] at hB row
 rw [← hg] at row
 have hgB : w.heap.size ≤ g := by omega
 clear hw1 hg hmk hwr2 hwr1
 go_loopg [19] M (fun gg iv wx => ∃ j : Nat, iv = .int .i64 (j : Nat) ∧ j ≤ M ∧ M ≤ j + gg ∧ RowOk wx g M j (fun _ => 0) ∧ Below w.heap.size w wx)
 case atStart => exact ⟨0, rfl, by omega, by omega, row, hB⟩
 case round =>
  clear row hB
  obtain ⟨j, rfl, hj, hjg, row, hB⟩ := hrel
  have hj0 : (0 : Int) ≤ (j : Int) := by omega
  by_cases hlt : j < M
  ·have hlt' : (j : Int) < (M : Int) := by omega
   obtain ⟨w0, hw0⟩ : ∃ W, W = wr := ⟨_, rfl⟩
   rw [← hw0] at row hB ⊢
   clear hw0
   obtain ⟨S, hSe⟩ : ∃ S : Nat → Rat, S = fun _ => 0 := ⟨_, rfl⟩
   rw [← hSe] at row
   have HSE := hid hSe
   clear hSe
   go_wp2_with fail
   refine (chZero_any _).mono ?_
   rintro e w1 ⟨Ap, cp, Bp, dp, rfl, mp1, mp2, mp3, mp4, mp5, mp6, kb⟩
   replace row := row.on kb
   replace hB := onS hB kb
   clear kb
   obtain ⟨q0, hq0⟩ : ∃ q : Rat, q = (0 : Rat) := ⟨_, rfl⟩
   rw [← hq0] at mp1 mp2 mp3 mp5 ⊢
   replace hq0 : q0 = 0 := hq0.trans (by rfl)
   have HQ0 := hid hq0
   have HSZq0 : rsz q0 1 := by rw [hq0]; exact rsz_zero
   clear hq0
   obtain ⟨o0, o1, o2, y0, y1, y2⟩ := row.old (j) (by omega)
   have z0 := row.froz (j * 3)
   have z1 := row.froz (j * 3 + 1)
   have z2 := row.froz (j * 3 + 2)
   have hsz := hB.size
   go_upto_region 6 with fail
   generalize hw3 : World.setCell _ _ _ = w2
   have hst : RowPut w1 g M (j) (j) (S) q0 w2 := by rw [← hw3]; exact rowPut row (by omega) (by omega) mp1 mp2 mp3 mp4 mp5 mp6
   clear hw3 mp1 mp2 mp3 mp4 mp5 mp6
   replace row := hst.row
   replace hB := hst.below hB hgB hsz
   clear hst
   rw [show max j (j + 1) = j + 1 by omega] at row
   clear y0 y1 y2 z0 z1 z2 hsz
   replace row := row.whole (show q0 = S j by rw [HSE.out, HQ0.out])
   rw [HSE.out] at row
   clear HSE HSZq0 HQ0
   go_wp2
   go_roundg (gk - 1)
   case measure => omega
   case rel => exact ⟨j + 1, by go_num, by omega, by omega, row, hB⟩
  ·obtain rfl : j = M := by omega
   have hlt' : ¬ (j : Int) < (j : Int) := by omega
   replace row := row.put' (show (fun _ => (0 : Rat)) = outP a b m' 0 from rfl)
   go_wp2
   obtain ⟨w0, hw0⟩ : ∃ W, W = wr := ⟨_, rfl⟩
   rw [← hw0] at row hB ⊢
   clear hw0 hlt hlt'
   obtain ⟨gK, rfl⟩ : ∃ gK : Nat, gK = gk := ⟨_, rfl⟩
   go_loopg [29] m (fun gg iv wx => ∃ i : Nat, iv = .int .i64 (i : Nat) ∧ i ≤ m ∧ m ≤ i + gg ∧ RowOk wx g j j (outP a b m' i) ∧ Below w.heap.size w wx)
   case atStart => exact ⟨0, rfl, by omega, by omega, row, hB⟩
   case round =>
    clear row hB
    obtain ⟨i, rfl, hi, hig, row, hB⟩ := hrel
    have hi0 : (0 : Int) ≤ (i : Int) := by omega
    by_cases hlt : i < m
    ·have hlt' : (i : Int) < (m : Int) := by omega
     obtain ⟨bx, ox, s5, A5, n5, c5, A6, n6, c6, rfl, hbx, t0, t1, t2, hrx⟩ := h i hlt
     have hrsx := hra.out i hlt
     have u0 := cellS hB t0
     have u1 := cellS hB t1
     have u2 := cellS hB t2
     have hBo := hB.size
     have hrl := row.lt
     have kb := below_one wr (.cells #[.bool s5, .slice A5 n5 c5, .slice A6 n6 c6] 31)
     have rx := box_row (w := wr) (a := .bool s5) (b := .slice A5 n5 c5) (c := .slice A6 n6 c6) (T := 31)
     replace row := row.on kb
     replace hB := onS hB kb
     clear kb
     go_wp2
     obtain ⟨w2, hw2⟩ : ∃ W, W = wr.alloc (.cells #[.bool s5, .slice A5 n5 c5, .slice A6 n6 c6] 31) := ⟨_, rfl⟩
     obtain ⟨gx, hgx⟩ : ∃ g, g = wr.heap.size := ⟨_, rfl⟩
     rw [← hw2, ← hgx]
     rw [← hw2] at row rx hB
     rw [← hgx] at rx hrl
     clear hw2 hgx u0 u1 u2 hBo
     obtain ⟨gI, rfl⟩ : ∃ gK : Nat, gK = gk := ⟨_, rfl⟩
     replace row := row.put' (show outP a b m' i = inP a b i (outP a b m' i) 0 from rfl)
     go_loopg [36] m' (fun gg jv wx => ∃ k : Nat, jv = .int .i64 (k : Nat) ∧ k ≤ m' ∧ m' ≤ k + gg ∧ RowOk wx g j j (inP a b i (outP a b m' i) k) ∧ wx.rowIs gx 31 3 (ratCell (.bool (s5)) (.slice (A5) (n5) (c5)) (.slice (A6) (n6) (c6))) ∧ Below w.heap.size w wx)
     case atStart => exact ⟨0, rfl, by omega, by omega, row, rx, hB⟩
     case round =>
      clear row hB rx
      obtain ⟨k, rfl, hk, hkg, row, rx, hB⟩ := hrel
      have hk0 : (0 : Int) ≤ (k : Int) := by omega
      by_cases hlk : k < m'
      ·have hlk' : (k : Int) < (m' : Int) := by omega
       obtain ⟨by_, oy, s7, A7, n7, c7, A8, n8, c8, rfl, hby, v0, v1, v2, hry⟩ := h' k hlk
       have hrsy := hrb.out k hlk
       have hik : (i : Int) + (k : Int) = ((i + k : Nat) : Int) := by omega
       have hikw : IntKind.i64.wrap ((i : Int) + (k : Int)) = ((i + k : Nat) : Int) := by rw [IntWalk.i64_in _ (by omega)]; omega
       have hikl : i + k < j := by omega
       have hikw2 : IntKind.i64.wrap ((i + k : Nat) : Int) = ((i + k : Nat) : Int) := by rw [IntWalk.i64_in _ (by omega)]
       have hikl' : ((i + k : Nat) : Int) < (j : Int) := by omega
       have hik0 : (0 : Int) ≤ ((i + k : Nat) : Int) := by omega
       have hikt : ((i + k : Nat) : Int).toNat = i + k := by omega
       have u0 := cellS hB v0
       have u1 := cellS hB v1
       have u2 := cellS hB v2
       have hBo := hB.size
       have hrl2 := row.lt
       have kb := below_one wr (.cells #[.bool s7, .slice A7 n7 c7, .slice A8 n8 c8] 31)
       have ry := box_row (w := wr) (a := .bool s7) (b := .slice A7 n7 c7) (c := .slice A8 n8 c8) (T := 31)
       replace row := row.on kb
       replace rx := rowIs_on rx kb
       replace hB := onS hB kb
       clear kb
       go_upto_region 13 with fail
       obtain ⟨w2, hw2⟩ : ∃ W, W = wr.alloc (.cells #[.bool s7, .slice A7 n7 c7, .slice A8 n8 c8] 31) := ⟨_, rfl⟩
       obtain ⟨gy, hgy⟩ : ∃ g, g = wr.heap.size := ⟨_, rfl⟩
       rw [← hw2, ← hgy]
       rw [← hw2] at row rx ry hB
       rw [← hgy] at ry hrl2
       clear hw2 hgy u0 u1 u2 hBo
       have hx := hrx.on hB
       have hy := hry.on hB
       obtain ⟨S, hSe⟩ : ∃ S, S = inP a b i (outP a b m' i) k := ⟨_, rfl⟩
       have hnxt : inP a b i (outP a b m' i) (k + 1) = updR S (i + k) (S (i + k) + a i * b k) := by rw [hSe]; rfl
       have hsz1 := hSI.out i hlt k (by omega) (i + k)
       have hsz2 : rsz (S (i + k) + a i * b k) (K + 1 + (N + N) + 1) := by have := hSI.out i hlt (k + 1) hlk (i + k); rw [hnxt] at this; simpa [updR] using this
       rw [← hSe] at row hsz1
       clear hSe
       obtain ⟨P, hP⟩ : ∃ P, P = i + k := ⟨_, rfl⟩
       rw [← hP] at hik hikw hikw2 hikl hikl' hik0 hikt hnxt hsz1 hsz2
       obtain ⟨x, hxe⟩ : ∃ x, x = a i := ⟨_, rfl⟩
       obtain ⟨y, hye⟩ : ∃ y, y = b k := ⟨_, rfl⟩
       rw [← hxe, ← hye] at hnxt hsz2
       rw [← hxe] at hx hrsx
       rw [← hye] at hy hrsy
       have hsxy := rsz_mul hrsx hrsy
       obtain ⟨q0, hq0⟩ : ∃ q, q = S P := ⟨_, rfl⟩
       rw [← hq0] at hnxt hsz1 hsz2
       have HQ0 := hid hq0
       have HNX := hid hnxt
       clear hq0 hnxt hxe hye hP
       have HS : Hid (∀ w' : World, w'.rowIs gx 31 3 (ratCell (.bool (s5)) (.slice (A5) (n5) (c5)) (.slice (A6) (n6) (c6))) → w'.rowIs gy 31 3 (ratCell (.bool (s7)) (.slice (A7) (n7) (c7)) (.slice (A8) (n8) (c8))) → w'.cell? ⟨gx, 0, none⟩ = some (.bool (s5)) ∧ w'.cell? ⟨gx, 1, none⟩ = some (.slice (A5) (n5) (c5)) ∧ w'.cell? ⟨gx, 2, none⟩ = some (.slice (A6) (n6) (c6)) ∧ w'.cell? ⟨gy, 0, none⟩ = some (.bool (s7)) ∧ w'.cell? ⟨gy, 1, none⟩ = some (.slice (A7) (n7) (c7)) ∧ w'.cell? ⟨gy, 2, none⟩ = some (.slice (A8) (n8) (c8))) := fun w' h1 h2 => ⟨h1.cell (i := 0) (by omega), h1.cell (i := 1) (by omega), h1.cell (i := 2) (by omega), h2.cell (i := 0) (by omega), h2.cell (i := 1) (by omega), h2.cell (i := 2) (by omega)⟩
       refine wp_region_held_drew (S := fun w' => w'.cell? ⟨gx, 0, none⟩ = some (.bool (s5)) ∧ w'.cell? ⟨gx, 1, none⟩ = some (.slice (A5) (n5) (c5)) ∧ w'.cell? ⟨gx, 2, none⟩ = some (.slice (A6) (n6) (c6)) ∧ w'.cell? ⟨gy, 0, none⟩ = some (.bool (s7)) ∧ w'.cell? ⟨gy, 1, none⟩ = some (.slice (A7) (n7) (c7)) ∧ w'.cell? ⟨gy, 2, none⟩ = some (.slice (A8) (n8) (c8))) (by kernel_rfl) (HS.out _ (show World.rowIs (World.drew _) _ _ _ _ from rx) (show World.rowIs (World.drew _) _ _ _ _ from ry)) (fun hHeld => ?_)
       obtain ⟨w3, hw⟩ : ∃ W, W = World.drew w2 := ⟨_, rfl⟩
       have kb : Below w2.heap.size w2 w3 := by rw [hw]; exact (Below.refl _ _).drew
       rw [← hw] at hHeld ⊢
       clear hw
       replace row := row.on kb
       replace hB := onS hB kb
       replace hx := hx.on kb
       replace hy := hy.on kb
       replace rx := rowIs_on rx kb
       replace ry := rowIs_on ry kb
       clear kb
       refine tkq 0 (h := tkq 1 (h := tkq 2 (h := tkq 3 (h := tkq 4 (h := tkq 5 (h := tkq 6 (h := tkq 7 (h := tkq 8 (h := tkq 10 (h := tkq 11 (h := ?_)))))))))))
       refine rdq2 9 12 (h := fun K hK => ?_) (h2 := fun K hK => ?_)
       ·obtain ⟨Ao, co, Bo, do_, g0, g1, g2, mo1, mo2, mo3, mo4, mo5, mo6⟩ := row.get P (by omega)
        rw [← HQ0.out] at g0 g1 g2 mo1 mo2 mo3 mo5
        go_simp
        clear g0 g1 g2
        refine bkq hK (HS.out _ rx ry) (h := fun hHeld => ?_)
        clear hK K
        refine rdq 12 (h := fun K hK => ?_)
        go_simp
        obtain ⟨w4, hw⟩ : ∃ W, W = World.alloc w3 (.cells #[.bool (s5), .slice (A5) (n5) (c5), .slice (A6) (n6) (c6), .bool (s7), .slice (A7) (n7) (c7), .slice (A8) (n8) (c8)] 31) := ⟨_, rfl⟩
        have kb : Below w3.heap.size w3 w4 := by rw [hw]; exact below_one _ _
        have tbp : RatTab w4 w4.heap.size (some ⟨w3.heap.size, 0, none⟩) 2 (pairR (x) (y)) NN := RatTab.letter hw (ratTab_pair 31 hx hy)
        rw [← hw]
        clear hw
        replace row := row.on kb
        replace hB := onS hB kb
        replace hx := hx.on kb
        replace hy := hy.on kb
        replace rx := rowIs_on rx kb
        replace ry := rowIs_on ry kb
        replace mo1 := mo1.on kb
        replace mo2 := mo2.on kb
        clear kb
        obtain ⟨gp, hg⟩ : ∃ g, g = w3.heap.size := ⟨_, rfl⟩
        rw [← hg] at tbp ⊢
        clear hg
        refine bkq hK (HS.out _ rx ry) (h := fun hHeld => ?_)
        clear hK K
        refine rdq 13 (h := fun K hK => ?_)
        go_simp
        go_wp2_with fail
        refine (ratMul_tab tbp (by omega) (by omega) (hrsx.mono (by omega)) (hrsy.mono (by omega)) (hsxy.mono (by omega))).mono ?_
        rintro e w5 ⟨Am, cm, Bm, dm, rfl, mm1, mm2, mm3, mm4, mm5, mm6, kb⟩
        replace row := row.on kb
        replace hB := onS hB kb
        replace hx := hx.on kb
        replace hy := hy.on kb
        replace rx := rowIs_on rx kb
        replace ry := rowIs_on ry kb
        replace mo1 := mo1.on kb
        replace mo2 := mo2.on kb
        replace tbp := tbp.on kb
        clear kb
        clear tbp
        obtain ⟨xy, hxy⟩ : ∃ p, p = x * y := ⟨_, rfl⟩
        rw [← hxy] at mm1 mm2 mm3 mm5 hsxy hsz2 ⊢
        have HXY := hid hxy
        clear hxy
        refine bkq hK (HS.out _ rx ry) (h := fun hHeld => ?_)
        clear hK K
        refine rdq 14 (h := fun K hK => ?_)
        go_simp
        obtain ⟨w6, hw⟩ : ∃ W, W = World.alloc w5 (.cells #[.bool (rneg (q0)), .slice (Ao) (dl (q0).num.natAbs) (co), .slice (Bo) (dl (q0).den) (do_), .bool (rneg (xy)), .slice (Am) (dl (xy).num.natAbs) (cm), .slice (Bm) (dl (xy).den) (dm)] 31) := ⟨_, rfl⟩
        have kb : Below w5.heap.size w5 w6 := by rw [hw]; exact below_one _ _
        have tbq : RatTab w6 w6.heap.size (some ⟨w5.heap.size, 0, none⟩) 2 (pairR (q0) (xy)) NN := RatTab.letter hw (ratTab_pair 31 (RatOk.raw ⟨Ao, co, Bo, do_, rfl, mo1, mo2, mo3, mo4, mo5, mo6⟩ (hsz1.mono (by omega))) (RatOk.raw ⟨Am, cm, Bm, dm, rfl, mm1, mm2, mm3, mm4, mm5, mm6⟩ (hsxy.mono (by omega))))
        rw [← hw]
        clear hw
        replace row := row.on kb
        replace hB := onS hB kb
        replace hx := hx.on kb
        replace hy := hy.on kb
        replace rx := rowIs_on rx kb
        replace ry := rowIs_on ry kb
        replace mo1 := mo1.on kb
        replace mo2 := mo2.on kb
        replace mm1 := mm1.on kb
        replace mm2 := mm2.on kb
        clear kb
        obtain ⟨gq, hg⟩ : ∃ g, g = w5.heap.size := ⟨_, rfl⟩
        rw [← hg] at tbq ⊢
        clear hg
        refine bkq hK (HS.out _ rx ry) (h := fun hHeld => ?_)
        clear hK K
        refine rdq 15 (h := fun K hK => ?_)
        go_simp
        go_wp2_with fail
        refine (ratAdd_tab tbq (by omega) (by omega) (hsz1.mono (by omega)) (hsxy.mono (by omega)) (hsz2.mono (by omega))).mono ?_
        rintro e w7 ⟨Ap, cp, Bp, dp, rfl, mp1, mp2, mp3, mp4, mp5, mp6, kb⟩
        replace row := row.on kb
        replace hB := onS hB kb
        replace hx := hx.on kb
        replace hy := hy.on kb
        replace rx := rowIs_on rx kb
        replace ry := rowIs_on ry kb
        replace mo1 := mo1.on kb
        replace mo2 := mo2.on kb
        replace mm1 := mm1.on kb
        replace mm2 := mm2.on kb
        replace tbq := tbq.on kb
        clear kb
        clear tbq
        obtain ⟨q1, hq1⟩ : ∃ z, z = q0 + xy := ⟨_, rfl⟩
        rw [← hq1] at mp1 mp2 mp3 mp5 hsz2 ⊢
        have HQ1 := hid hq1
        clear hq1
        clear mo1 mo2 mo3 mo4 mo5 mo6 mm1 mm2 mm3 mm4 mm5 mm6
        refine bkq hK (HS.out _ rx ry) (h := fun hHeld => ?_)
        clear hK K
        refine tkq 16 (h := ?_)
        obtain ⟨o0, o1, o2, y0, y1, y2⟩ := row.old (P) (by omega)
        have z0 := row.froz (P * 3)
        have z1 := row.froz (P * 3 + 1)
        have z2 := row.froz (P * 3 + 2)
        have hsz := hB.size
        refine rdq 17 (h := fun K hK => ?_)
        go_simp
        generalize hw3 : World.setCell _ _ _ = w8
        have hst : RowPut w7 g j j P S q1 w8 := by rw [← hw3]; exact rowPut row (by omega) (by omega) mp1 mp2 mp3 mp4 mp5 mp6
        clear hw3 mp1 mp2 mp3 mp4 mp5 mp6 hx hy
        replace row := hst.row
        rw [show max j (P + 1) = j by omega] at row
        replace hB := hst.below hB hgB hsz
        replace rx := rowIs_grown rx hst.grown (by omega)
        replace ry := rowIs_grown ry hst.grown (by omega)
        clear hst
        refine bkq hK (HS.out _ rx ry) (h := fun hHeld => ?_)
        clear hK K
        refine wpAnyH_done (by kernel_rfl) ?_ _
        clear hHeld
        replace row := row.put' (show updR S P q1 = inP a b i (outP a b m' i) (k + 1) by rw [HNX.out, HQ1.out, HXY.out])
        clear y0 y1 y2 z0 z1 z2 hsz HS HNX HQ1 HXY HQ0 hsz1 hsz2 hsxy ry hikw hikw2 hik hikt
        go_wp2
        go_roundg (gk - 1)
        case measure => omega
        case rel => exact ⟨k + 1, by go_num, by omega, by omega, row, rx, hB⟩
       ·go_simp
        obtain ⟨w4, hw⟩ : ∃ W, W = World.alloc w3 (.cells #[.bool (s5), .slice (A5) (n5) (c5), .slice (A6) (n6) (c6), .bool (s7), .slice (A7) (n7) (c7), .slice (A8) (n8) (c8)] 31) := ⟨_, rfl⟩
        have kb : Below w3.heap.size w3 w4 := by rw [hw]; exact below_one _ _
        have tbp : RatTab w4 w4.heap.size (some ⟨w3.heap.size, 0, none⟩) 2 (pairR (x) (y)) NN := RatTab.letter hw (ratTab_pair 31 hx hy)
        rw [← hw]
        clear hw
        replace row := row.on kb
        replace hB := onS hB kb
        replace hx := hx.on kb
        replace hy := hy.on kb
        replace rx := rowIs_on rx kb
        replace ry := rowIs_on ry kb
        clear kb
        obtain ⟨gp, hg⟩ : ∃ g, g = w3.heap.size := ⟨_, rfl⟩
        rw [← hg] at tbp ⊢
        clear hg
        refine bkq hK (HS.out _ rx ry) (h := fun hHeld => ?_)
        clear hK K
        refine rdq2 9 13 (h := fun K hK => ?_) (h2 := fun K hK => ?_)
        ·obtain ⟨Ao, co, Bo, do_, g0, g1, g2, mo1, mo2, mo3, mo4, mo5, mo6⟩ := row.get P (by omega)
         rw [← HQ0.out] at g0 g1 g2 mo1 mo2 mo3 mo5
         go_simp
         clear g0 g1 g2
         refine bkq hK (HS.out _ rx ry) (h := fun hHeld => ?_)
         clear hK K
         refine rdq 13 (h := fun K hK => ?_)
         go_simp
         go_wp2_with fail
         refine (ratMul_tab tbp (by omega) (by omega) (hrsx.mono (by omega)) (hrsy.mono (by omega)) (hsxy.mono (by omega))).mono ?_
         rintro e w5 ⟨Am, cm, Bm, dm, rfl, mm1, mm2, mm3, mm4, mm5, mm6, kb⟩
         replace row := row.on kb
         replace hB := onS hB kb
         replace hx := hx.on kb
         replace hy := hy.on kb
         replace rx := rowIs_on rx kb
         replace ry := rowIs_on ry kb
         replace tbp := tbp.on kb
         replace mo1 := mo1.on kb
         replace mo2 := mo2.on kb
         clear kb
         clear tbp
         obtain ⟨xy, hxy⟩ : ∃ p, p = x * y := ⟨_, rfl⟩
         rw [← hxy] at mm1 mm2 mm3 mm5 hsxy hsz2 ⊢
         have HXY := hid hxy
         clear hxy
         refine bkq hK (HS.out _ rx ry) (h := fun hHeld => ?_)
         clear hK K
         refine rdq 14 (h := fun K hK => ?_)
         go_simp
         obtain ⟨w6, hw⟩ : ∃ W, W = World.alloc w5 (.cells #[.bool (rneg (q0)), .slice (Ao) (dl (q0).num.natAbs) (co), .slice (Bo) (dl (q0).den) (do_), .bool (rneg (xy)), .slice (Am) (dl (xy).num.natAbs) (cm), .slice (Bm) (dl (xy).den) (dm)] 31) := ⟨_, rfl⟩
         have kb : Below w5.heap.size w5 w6 := by rw [hw]; exact below_one _ _
         have tbq : RatTab w6 w6.heap.size (some ⟨w5.heap.size, 0, none⟩) 2 (pairR (q0) (xy)) NN := RatTab.letter hw (ratTab_pair 31 (RatOk.raw ⟨Ao, co, Bo, do_, rfl, mo1, mo2, mo3, mo4, mo5, mo6⟩ (hsz1.mono (by omega))) (RatOk.raw ⟨Am, cm, Bm, dm, rfl, mm1, mm2, mm3, mm4, mm5, mm6⟩ (hsxy.mono (by omega))))
         rw [← hw]
         clear hw
         replace row := row.on kb
         replace hB := onS hB kb
         replace hx := hx.on kb
         replace hy := hy.on kb
         replace rx := rowIs_on rx kb
         replace ry := rowIs_on ry kb
         replace mo1 := mo1.on kb
         replace mo2 := mo2.on kb
         replace mm1 := mm1.on kb
         replace mm2 := mm2.on kb
         clear kb
         obtain ⟨gq, hg⟩ : ∃ g, g = w5.heap.size := ⟨_, rfl⟩
         rw [← hg] at tbq ⊢
         clear hg
         refine bkq hK (HS.out _ rx ry) (h := fun hHeld => ?_)
         clear hK K
         refine rdq 15 (h := fun K hK => ?_)
         go_simp
         go_wp2_with fail
         refine (ratAdd_tab tbq (by omega) (by omega) (hsz1.mono (by omega)) (hsxy.mono (by omega)) (hsz2.mono (by omega))).mono ?_
         rintro e w7 ⟨Ap, cp, Bp, dp, rfl, mp1, mp2, mp3, mp4, mp5, mp6, kb⟩
         replace row := row.on kb
         replace hB := onS hB kb
         replace hx := hx.on kb
         replace hy := hy.on kb
         replace rx := rowIs_on rx kb
         replace ry := rowIs_on ry kb
         replace mo1 := mo1.on kb
         replace mo2 := mo2.on kb
         replace mm1 := mm1.on kb
         replace mm2 := mm2.on kb
         replace tbq := tbq.on kb
         clear kb
         clear tbq
         obtain ⟨q1, hq1⟩ : ∃ z, z = q0 + xy := ⟨_, rfl⟩
         rw [← hq1] at mp1 mp2 mp3 mp5 hsz2 ⊢
         have HQ1 := hid hq1
         clear hq1
         clear mo1 mo2 mo3 mo4 mo5 mo6 mm1 mm2 mm3 mm4 mm5 mm6
         refine bkq hK (HS.out _ rx ry) (h := fun hHeld => ?_)
         clear hK K
         refine tkq 16 (h := ?_)
         obtain ⟨o0, o1, o2, y0, y1, y2⟩ := row.old (P) (by omega)
         have z0 := row.froz (P * 3)
         have z1 := row.froz (P * 3 + 1)
         have z2 := row.froz (P * 3 + 2)
         have hsz := hB.size
         refine rdq 17 (h := fun K hK => ?_)
         go_simp
         generalize hw3 : World.setCell _ _ _ = w8
         have hst : RowPut w7 g j j P S q1 w8 := by rw [← hw3]; exact rowPut row (by omega) (by omega) mp1 mp2 mp3 mp4 mp5 mp6
         clear hw3 mp1 mp2 mp3 mp4 mp5 mp6 hx hy
         replace row := hst.row
         rw [show max j (P + 1) = j by omega] at row
         replace hB := hst.below hB hgB hsz
         replace rx := rowIs_grown rx hst.grown (by omega)
         replace ry := rowIs_grown ry hst.grown (by omega)
         clear hst
         refine bkq hK (HS.out _ rx ry) (h := fun hHeld => ?_)
         clear hK K
         refine wpAnyH_done (by kernel_rfl) ?_ _
         clear hHeld
         replace row := row.put' (show updR S P q1 = inP a b i (outP a b m' i) (k + 1) by rw [HNX.out, HQ1.out, HXY.out])
         clear y0 y1 y2 z0 z1 z2 hsz HS HNX HQ1 HXY HQ0 hsz1 hsz2 hsxy ry hikw hikw2 hik hikt
         go_wp2
         go_roundg (gk - 1)
         case measure => omega
         case rel => exact ⟨k + 1, by go_num, by omega, by omega, row, rx, hB⟩
        ·go_simp
         go_wp2_with fail
         refine (ratMul_tab tbp (by omega) (by omega) (hrsx.mono (by omega)) (hrsy.mono (by omega)) (hsxy.mono (by omega))).mono ?_
         rintro e w5 ⟨Am, cm, Bm, dm, rfl, mm1, mm2, mm3, mm4, mm5, mm6, kb⟩
         replace row := row.on kb
         replace hB := onS hB kb
         replace hx := hx.on kb
         replace hy := hy.on kb
         replace rx := rowIs_on rx kb
         replace ry := rowIs_on ry kb
         replace tbp := tbp.on kb
         clear kb
         clear tbp
         obtain ⟨xy, hxy⟩ : ∃ p, p = x * y := ⟨_, rfl⟩
         rw [← hxy] at mm1 mm2 mm3 mm5 hsxy hsz2 ⊢
         have HXY := hid hxy
         clear hxy
         refine bkq hK (HS.out _ rx ry) (h := fun hHeld => ?_)
         clear hK K
         refine rdq 9 (h := fun K hK => ?_)
         obtain ⟨Ao, co, Bo, do_, g0, g1, g2, mo1, mo2, mo3, mo4, mo5, mo6⟩ := row.get P (by omega)
         rw [← HQ0.out] at g0 g1 g2 mo1 mo2 mo3 mo5
         go_simp
         clear g0 g1 g2
         refine bkq hK (HS.out _ rx ry) (h := fun hHeld => ?_)
         clear hK K
         refine rdq 14 (h := fun K hK => ?_)
         go_simp
         obtain ⟨w6, hw⟩ : ∃ W, W = World.alloc w5 (.cells #[.bool (rneg (q0)), .slice (Ao) (dl (q0).num.natAbs) (co), .slice (Bo) (dl (q0).den) (do_), .bool (rneg (xy)), .slice (Am) (dl (xy).num.natAbs) (cm), .slice (Bm) (dl (xy).den) (dm)] 31) := ⟨_, rfl⟩
         have kb : Below w5.heap.size w5 w6 := by rw [hw]; exact below_one _ _
         have tbq : RatTab w6 w6.heap.size (some ⟨w5.heap.size, 0, none⟩) 2 (pairR (q0) (xy)) NN := RatTab.letter hw (ratTab_pair 31 (RatOk.raw ⟨Ao, co, Bo, do_, rfl, mo1, mo2, mo3, mo4, mo5, mo6⟩ (hsz1.mono (by omega))) (RatOk.raw ⟨Am, cm, Bm, dm, rfl, mm1, mm2, mm3, mm4, mm5, mm6⟩ (hsxy.mono (by omega))))
         rw [← hw]
         clear hw
         replace row := row.on kb
         replace hB := onS hB kb
         replace hx := hx.on kb
         replace hy := hy.on kb
         replace rx := rowIs_on rx kb
         replace ry := rowIs_on ry kb
         replace mm1 := mm1.on kb
         replace mm2 := mm2.on kb
         replace mo1 := mo1.on kb
         replace mo2 := mo2.on kb
         clear kb
         obtain ⟨gq, hg⟩ : ∃ g, g = w5.heap.size := ⟨_, rfl⟩
         rw [← hg] at tbq ⊢
         clear hg
         refine bkq hK (HS.out _ rx ry) (h := fun hHeld => ?_)
         clear hK K
         refine rdq 15 (h := fun K hK => ?_)
         go_simp
         go_wp2_with fail
         refine (ratAdd_tab tbq (by omega) (by omega) (hsz1.mono (by omega)) (hsxy.mono (by omega)) (hsz2.mono (by omega))).mono ?_
         rintro e w7 ⟨Ap, cp, Bp, dp, rfl, mp1, mp2, mp3, mp4, mp5, mp6, kb⟩
         replace row := row.on kb
         replace hB := onS hB kb
         replace hx := hx.on kb
         replace hy := hy.on kb
         replace rx := rowIs_on rx kb
         replace ry := rowIs_on ry kb
         replace mm1 := mm1.on kb
         replace mm2 := mm2.on kb
         replace mo1 := mo1.on kb
         replace mo2 := mo2.on kb
         replace tbq := tbq.on kb
         clear kb
         clear tbq
         obtain ⟨q1, hq1⟩ : ∃ z, z = q0 + xy := ⟨_, rfl⟩
         rw [← hq1] at mp1 mp2 mp3 mp5 hsz2 ⊢
         have HQ1 := hid hq1
         clear hq1
         clear mo1 mo2 mo3 mo4 mo5 mo6 mm1 mm2 mm3 mm4 mm5 mm6
         refine bkq hK (HS.out _ rx ry) (h := fun hHeld => ?_)
         clear hK K
         refine tkq 16 (h := ?_)
         obtain ⟨o0, o1, o2, y0, y1, y2⟩ := row.old (P) (by omega)
         have z0 := row.froz (P * 3)
         have z1 := row.froz (P * 3 + 1)
         have z2 := row.froz (P * 3 + 2)
         have hsz := hB.size
         refine rdq 17 (h := fun K hK => ?_)
         go_simp
         generalize hw3 : World.setCell _ _ _ = w8
         have hst : RowPut w7 g j j P S q1 w8 := by rw [← hw3]; exact rowPut row (by omega) (by omega) mp1 mp2 mp3 mp4 mp5 mp6
         clear hw3 mp1 mp2 mp3 mp4 mp5 mp6 hx hy
         replace row := hst.row
         rw [show max j (P + 1) = j by omega] at row
         replace hB := hst.below hB hgB hsz
         replace rx := rowIs_grown rx hst.grown (by omega)
         replace ry := rowIs_grown ry hst.grown (by omega)
         clear hst
         refine bkq hK (HS.out _ rx ry) (h := fun hHeld => ?_)
         clear hK K
         refine wpAnyH_done (by kernel_rfl) ?_ _
         clear hHeld
         replace row := row.put' (show updR S P q1 = inP a b i (outP a b m' i) (k + 1) by rw [HNX.out, HQ1.out, HXY.out])
         clear y0 y1 y2 z0 z1 z2 hsz HS HNX HQ1 HXY HQ0 hsz1 hsz2 hsxy ry hikw hikw2 hik hikt
         go_wp2
         go_roundg (gk - 1)
         case measure => omega
         case rel => exact ⟨k + 1, by go_num, by omega, by omega, row, rx, hB⟩
      ·obtain rfl : k = m' := by omega
       have hlk' : ¬ (k : Int) < (k : Int) := by omega
       replace row := row.put' (show inP a b i (outP a b k i) k = outP a b k (i + 1) from rfl)
       go_wp2
       go_roundg (gI - 1)
       case measure => omega
       case rel => exact ⟨i + 1, by go_num, by omega, by omega, row, hB⟩
    ·obtain rfl : i = m := by omega
     have hlt' : ¬ (i : Int) < (i : Int) := by omega
     have hl := row.list.tab (fun p _ => hSO.out i (by omega) p)
     go_wp2_with fail
     refine (chCanon_any (some ⟨g, 0, none⟩) j j (K + 1) (outP a b m' i) _ hl (by omega) (by omega)).mono ?_
     rintro e w2 ⟨Ar, cr, rfl, e1, e2, e3, kb⟩
     replace hB := onS hB kb
     clear kb hl row
     obtain ⟨cl, hcl⟩ : ∃ cl, cl = clen (outP a b m' i) j := ⟨_, rfl⟩
     rw [← hcl] at e1 e3 ⊢
     have HCL := hid hcl
     clear hcl
     go_wp2
     go_ret
     exact ⟨_, _, by rw [HCL.out]; rfl, by rw [HCL.out] at e1; exact e1, e2, by rw [HCL.out] at e3; exact e3, hB⟩
def powR (x : Rat) : Nat → Rat
 | 0 => ((1 : Int) : Rat)
 | k + 1 => powR x k * x
/-- The value, from below. -/
def evR (rs : Nat → Rat) (x : Rat) : Nat → Rat
 | 0 => ((0 : Int) : Rat)
 | k + 1 => evR rs x k + rs k * powR x k
theorem powR_zero (x : Rat) : powR x 0 = 1 := rfl
theorem evR_zero (a : Nat → Rat) (x : Rat) : evR a x 0 = 0 := rfl
theorem powR_add (x : Rat) (i j : Nat) : powR x (i + j) = powR x i * powR x j := by
 induction j with
 | zero => rw [powR_zero, Nat.add_zero, Rat.mul_one]
 | succ j ih => show powR x (i + j) * x = powR x i * (powR x j * x); rw [ih]; grind
theorem horR_evR (a : Nat → Rat) (m : Nat) (x : Rat) : ∀ k, k ≤ m → evR a x m = evR a x (m - k) + horR a m x k * powR x (m - k) := by
 intro k
 induction k with
 | zero => intro _; show _ = evR a x m + 0 * _; grind
 | succ k ih =>
  intro hk
  rw [ih (by omega)]
  obtain ⟨j, hj⟩ : ∃ j, m - k = j + 1 := ⟨m - k - 1, by omega⟩
  rw [hj, show m - (k + 1) = j by omega]
  show evR a x j + a j * powR x j + horR a m x k * (powR x j * x) = evR a x j + (horR a m x k * x + a (m - 1 - k)) * powR x j
  rw [show m - 1 - k = j by omega]
  grind
theorem horR_eq (a : Nat → Rat) (m : Nat) (x : Rat) : horR a m x m = evR a x m := by
 have := horR_evR a m x m (Nat.le_refl _)
 rw [Nat.sub_self, evR_zero, powR_zero] at this
 grind
theorem evR_congr {a b : Nat → Rat} {x : Rat} {m : Nat} (h : ∀ i, i < m → a i = b i) : evR a x m = evR b x m := by
 induction m with
 | zero => rfl
 | succ m ih =>
  show evR a x m + a m * _ = evR b x m + b m * _
  rw [ih fun i hi => h i (by omega), h m (by omega)]
theorem evR_clen (a : Nat → Rat) (x : Rat) (m : Nat) : evR a x (clen a m) = evR a x m := by
 induction m with
 | zero => rfl
 | succ m ih =>
  unfold clen
  split
  ·rename_i e
   rw [ih]
   show _ = evR a x m + a m * _
   rw [e]; grind
  ·rfl
theorem evR_cut (a : Nat → Rat) (x : Rat) (m k : Nat) : evR (cutR a m) x (m + k) = evR a x m := by
 induction k with
 | zero => exact evR_congr fun i hi => by simp only [cutR]; rw [if_pos (by omega)]
 | succ k ih =>
  show evR (cutR a m) x (m + k) + cutR a m (m + k) * _ = _
  rw [ih]
  simp only [cutR]
  rw [if_neg (by omega)]
  grind
theorem evR_add (a b : Nat → Rat) (x : Rat) (m : Nat) : evR (fun i => a i + b i) x m = evR a x m + evR b x m := by
 induction m with
 | zero => show (0 : Rat) = 0 + 0; grind
 | succ m ih =>
  show evR _ x m + (a m + b m) * powR x m = evR a x m + a m * powR x m + (evR b x m + b m * powR x m)
  rw [ih]; grind
theorem evR_sumP (a b : Nat → Rat) (x : Rat) (m m' : Nat) : evR (sumP a m b m') x (max m m') = evR a x m + evR b x m' := by
 have e : sumP a m b m' = fun i => cutR a m i + cutR b m' i := rfl
 rw [e, evR_add]
 congr 1
 ·obtain ⟨k, hk⟩ : ∃ k, max m m' = m + k := ⟨max m m' - m, by omega⟩
  rw [hk, evR_cut]
 ·obtain ⟨k, hk⟩ : ∃ k, max m m' = m' + k := ⟨max m m' - m', by omega⟩
  rw [hk, evR_cut]
theorem evR_upd (S : Nat → Rat) (x v : Rat) (p M : Nat) (hp : p < M) : evR (updR S p (S p + v)) x M = evR S x M + v * powR x p := by
 induction M with
 | zero => omega
 | succ M ih =>
  show evR _ x M + updR S p (S p + v) M * powR x M = evR S x M + S M * powR x M + v * powR x p
  by_cases e : p = M
  ·subst e
   rw [evR_congr (b := S) fun i hi => by unfold updR; rw [if_neg (by omega)]]
   unfold updR
   rw [if_pos rfl]; grind
  ·rw [ih (by omega)]
   unfold updR
   rw [if_neg (fun h => e h.symm)]; grind
theorem evR_inP (a b S : Nat → Rat) (x : Rat) (i M : Nat) : ∀ j, i + j ≤ M → evR (inP a b i S j) x M = evR S x M + a i * powR x i * evR b x j := by
 intro j
 induction j with
 | zero => intro _; show evR S x M = _ + _ * (0 : Rat); grind
 | succ j ih =>
  intro hj
  show evR (updR (inP a b i S j) (i + j) (inP a b i S j (i + j) + a i * b j)) x M = _
  rw [evR_upd _ _ _ _ _ (by omega), ih (by omega), powR_add]
  show _ = evR S x M + a i * powR x i * (evR b x j + b j * powR x j)
  grind
theorem evR_outP (a b : Nat → Rat) (x : Rat) (m' M : Nat) : ∀ i, i + m' ≤ M + 1 → evR (outP a b m' i) x M = evR a x i * evR b x m' := by
 intro i
 induction i with
 | zero =>
  intro _
  show evR (fun _ => (0 : Rat)) x M = 0 * _
  have : ∀ M, evR (fun _ => (0 : Rat)) x M = 0 := fun M => by
   induction M with
   | zero => rfl
   | succ M ih => show evR _ x M + 0 * _ = 0; rw [ih]; grind
  rw [this]; grind
 | succ i ih =>
  intro hi
  show evR (inP a b i (outP a b m' i) m') x M = (evR a x i + a i * powR x i) * _
  rw [evR_inP _ _ _ _ _ _ _ (by omega), ih (by omega)]
  grind
theorem evR_mulP (a b : Nat → Rat) (x : Rat) (m m' : Nat) : evR (mulP a m b m') x (m + m') = evR a x m * evR b x m' := evR_outP a b x m' (m + m') m (by omega)
/-- What Eval needs of the sizes. -/
structure EvalFits (a : Nat → Rat) (m : Nat) (x : Rat) (N : Nat) : Prop where
 top : ∀ k, k ≤ m → rsz (horR a m x k) N ∧ rsz (horR a m x k * x) N
 low : ∀ k, k ≤ m → rsz (evR a x k) N ∧ rsz (powR x k) N
 term : ∀ k, k < m → rsz (a k * powR x k) N
 ent : ∀ k, k < m → rsz (a k) N
 arg : rsz x N
theorem rsz_one : rsz 1 1 := ⟨by show dl 1 ≤ 1; rw [dl_one]; omega, by show dl 1 ≤ 1; rw [dl_one]; omega⟩
theorem rsz_horR {a : Nat → Rat} {m N E : Nat} {x : Rat} (ha : ∀ k, k < m → rsz (a k) E) (hx : rsz x N) : ∀ k, k ≤ m → rsz (horR a m x k) (1 + k * (N + E + 1)) := by
 intro k
 induction k with
 | zero => intro _; exact rsz_zero.mono (by omega)
 | succ k ih =>
  intro hk
  have := rsz_add (rsz_mul (ih (by omega)) hx) (ha (m - 1 - k) (by omega))
  rw [Nat.add_mul, Nat.one_mul]
  exact this.mono (by omega)
theorem rsz_powR {N : Nat} {x : Rat} (hx : rsz x N) (k : Nat) : rsz (powR x k) (1 + k * N) := by
 induction k with
 | zero => exact rsz_one.mono (by omega)
 | succ k ih =>
  rw [Nat.add_mul, Nat.one_mul]
  exact (rsz_mul ih hx).mono (by omega)
theorem rsz_evR {a : Nat → Rat} {m N E K : Nat} {x : Rat} (ha : ∀ k, k < m → rsz (a k) E) (hx : rsz x N) (hK : m * N + E + 2 ≤ K) : ∀ k, k ≤ m → rsz (evR a x k) (1 + k * K) := by
 intro k
 induction k with
 | zero => intro _; exact rsz_zero.mono (by omega)
 | succ k ih =>
  intro hk
  have h1 := rsz_add (ih (by omega)) (rsz_mul (ha k (by omega)) (rsz_powR hx k))
  have h2 : k * N ≤ m * N := Nat.mul_le_mul_right N (by omega)
  rw [Nat.add_mul, Nat.one_mul]
  exact h1.mono (by omega)
theorem evalFits {a : Nat → Rat} {m N E K : Nat} {x : Rat} (ha : ∀ k, k < m → rsz (a k) E) (hx : rsz x N) (hK : 1 + m * (m * N + E + N + 3) + N ≤ K) (hE : E ≤ K) : EvalFits a m x K := by
 have h0 : m * (N + E + 1) ≤ m * (m * N + E + N + 3) := Nat.mul_le_mul_left m (by omega)
 have h3 : m * N ≤ m * (m * N + E + N + 3) := Nat.mul_le_mul_left m (by omega)
 refine ⟨fun k hk => ?_, fun k hk => ?_, fun k hk => ?_, fun k hk => (ha k hk).mono hE, hx.mono (by omega)⟩
 ·have h1 : k * (N + E + 1) ≤ m * (N + E + 1) := Nat.mul_le_mul_right _ hk
  have := rsz_horR ha hx k hk
  exact ⟨this.mono (by omega), (rsz_mul this hx).mono (by omega)⟩
 ·have h1 : k * (m * N + E + 2) ≤ m * (m * N + E + 2) := Nat.mul_le_mul_right _ hk
  have h2 : m * (m * N + E + 2) ≤ m * (m * N + E + N + 3) := Nat.mul_le_mul_left m (by omega)
  have h4 : k * N ≤ m * N := Nat.mul_le_mul_right _ hk
  exact ⟨(rsz_evR ha hx (Nat.le_refl _) k hk).mono (by omega), (rsz_powR hx k).mono (by omega)⟩
 ·have h1 : k * N ≤ m * N := Nat.mul_le_mul_right _ (by omega)
  have h4 : 1 * (m * N + E + N + 3) ≤ m * (m * N + E + N + 3) := Nat.mul_le_mul_right _ (by omega)
  exact (rsz_mul (ha k hk) (rsz_powR hx k)).mono (by omega)
open Go.ChangeShapes Go.WideShapes Go.ChangeAt
theorem wf_u32 {n : Int} (h : (Lit.int .u32 n).wf = true) : 0 ≤ n ∧ n < 4294967296 := by
 have : 0 ≤ n ∧ n ≤ 4294967295 := by simpa [Lit.wf, IntKind.min, IntKind.max, IntKind.signed, IntKind.bits] using h
 omega
section
variable {H : Type} {enc : TypeId × Value → H} {w : World} {base : Nat} {spare : Nat → Bool} {held : Bool} {cs : List Value}
set_option maxRecDepth 100000 in
theorem sees_nat (h : Sees enc Tryz.prog w base spare held 29 cs) : ∃ A n c x, cs = [.slice A n c] ∧ n ≤ c ∧ c ≤ maxLen ∧ NatRaw w w.heap.size A n x := by
 obtain ⟨A, n, c, g, e, h1, h2, hr, hw⟩ := sees_ints Tryz.underlying29 Tryz.underlying89 (by kernel_rfl) h
 refine ⟨A, n, c, _, e, h1, h2, fun i => (g i).toNat, fun i hi => ?_, fun i hi => ?_, rfl⟩
 ·obtain ⟨b, off, e1, hb, hc⟩ := hr i hi
  refine ⟨b, off, e1, hb, fun j hj => ?_⟩
  have := wf_u32 (hw i hi)
  rw [hc j hj]
  show some (Value.int .u32 (g i)) = some (.int .u32 ((g i).toNat : Int))
  rw [Int.toNat_of_nonneg this.1]
 ·have := wf_u32 (hw i hi)
  show (g i).toNat < 4294967296
  omega
set_option maxRecDepth 100000 in
theorem sees_rat (h : Sees enc Tryz.prog w base spare held 31 cs) : ∃ s A n c A2 k c2 r, cs = [.bool s, .slice A n c, .slice A2 k c2] ∧ ∀ N, n ≤ N → k ≤ N → RatRaw w w.heap.size (.agg #[.bool s, .slice A n c, .slice A2 k c2]) r N := by
 obtain ⟨hl, _⟩ := sees_struct Tryz.underlying31 h
 match cs, hl.trans (show Tryz.prog.cellsOf 31 = 3 by kernel_rfl) with
 | [c0, c1, c2], _ =>
  have hc : Tryz.prog.cellsOf 4 = 1 := by kernel_rfl
  have hc' : Tryz.prog.cellsOf 29 = 1 := by kernel_rfl
  have g0 := sees_at Tryz.underlying31 h 0 4 0 1 ⟨_, rfl, rfl, rfl⟩ hc
  have g1 := sees_at Tryz.underlying31 h 1 29 1 1 ⟨_, rfl, rfl, rfl⟩ hc'
  have g2 := sees_at Tryz.underlying31 h 2 29 2 1 ⟨_, rfl, rfl, rfl⟩ hc'
  obtain ⟨s, ha⟩ := sees_bool Tryz.underlying4 g0
  obtain ⟨A, n, c, x, hb, h1, h2, hx⟩ := sees_nat g1
  obtain ⟨A2, k, c2', y, hc, h3, h4, hy⟩ := sees_nat g2
  simp at ha hb hc
  subst ha hb hc
  exact ⟨s, A, n, c, A2, k, c2', _, rfl, fun N hn hk => ⟨s, A, n, c, A2, k, c2', x, y, rfl, hx, hy, h1, h2, h3, h4, hn, hk, rfl⟩⟩
end
theorem RatRaw.rsz {w : World} {B N : Nat} {v : Value} {r : Rat} (h : RatRaw w B v r N) (hN : 1 ≤ N) : rsz r N := by
 obtain ⟨s, A, n, c, A2, m, c2, x, y, e, h1, h2, h3, h4, h5, h6, h7, h8, rfl⟩ := h
 have := h1.dl
 have := h2.dl
 exact rsz_rv (by omega) (by omega) hN
theorem lawShort_is (v : Bool) (s : Bool) (A A2 : Option Addr) (n c m c2 : Nat) (w : World) (hv : Hid ((decide (n ≤ 4) && decide (m ≤ 4)) = v)) :
  Calls Tryz.prog 9 #[.agg #[.bool s, .slice A n c, .slice A2 m c2]] w fun e w' => e = .returned (.bool v) ∧ Below w.heap.size w w' := by
 rw [← hv.out]; exact lawShort_any s A A2 n c m c2 w
/-- Eval of both sides, by the value from below. -/
theorem chEval_fit {T : Option Addr} {m c N : Nat} {rs : Nat → Rat} {v : Value} {x : Rat} {w : World} (h : RatTab w w.heap.size T m rs N) (hx : RatRaw w w.heap.size v x N) (hm : m ≤ 1048576) (hN : N ≤ 33554432) (hf : EvalFits rs m x N) :
  Calls Tryz.prog 24 #[.slice T m c, v] w (RatPost (evR rs x m) w) := by
 have := chEval_any T m c N rs v x w h hx hm hN (rsz_pos hf.arg) hf.arg hf.top hf.ent
 rwa [horR_eq] at this
/-- The number of places where two lists differ. -/
def disN (f g : Nat → Int) : Nat → Nat
 | 0 => 0
 | k + 1 => disN f g k + if f k = g k then 0 else 1
theorem disN_le (f g : Nat → Int) (k : Nat) : disN f g k ≤ k := by
 induction k with
 | zero => exact Nat.le_refl _
 | succ k ih => unfold disN; split <;> omega
set_option maxRecDepth 100000 in
set_option maxHeartbeats 4000000 in
theorem distance_any (A B : Option Addr) (n c c' : Nat) (f g : Nat → Int) (w : World) (h : IntsR w w.heap.size A n f) (h' : IntsR w w.heap.size B n g) (hn : n ≤ 1048576) :
  Calls Tryz.prog 46 #[.slice A n c, .slice B n c'] w fun e w' => e = .returned (.int .i64 (disN f g n : Nat)) ∧ Below w.heap.size w w' := by
 go_enter Tryz.func46, Tryz.ntmps46
 go_wp2
 go_loopg [5, 6] n (fun gg ov iv wx => ∃ k : Nat, iv = .int .i64 (k : Nat) ∧ ov = .int .i64 (disN f g k : Nat) ∧ k ≤ n ∧ n ≤ k + gg ∧ Below w.heap.size w wx)
 case atStart => exact ⟨0, rfl, rfl, by omega, by omega, Below.refl _ _⟩
 case round =>
  obtain ⟨k, rfl, rfl, hk, hkg, hB⟩ := hrel
  have hk0 : (0 : Int) ≤ (k : Int) := by omega
  by_cases hlt : k < n
  ·obtain ⟨b, o, rfl, hb, e0⟩ := (h.on hB).at hlt
   obtain ⟨b2, o2, rfl, hb2, e2⟩ := (h'.on hB).at hlt
   have hlt' : (k : Int) < (n : Int) := by omega
   have hdl := disN_le f g k
   by_cases heq : f k = g k
   ·have hnx : Hid (disN f g (k + 1) = disN f g k) := by show _ + _ = _; rw [if_pos heq]; rfl
    obtain ⟨D, hD⟩ : ∃ D, D = disN f g k := ⟨_, rfl⟩
    rw [← hD] at hnx hdl
    rw [← hD]
    obtain ⟨x, hx⟩ : ∃ x, x = f k := ⟨_, rfl⟩
    rw [← heq, ← hx] at e2
    rw [← hx] at e0
    have hne : (x != x) = false := by simp
    clear hD hx heq
    go_wp2
    go_quiet (fail)
    go_wp2
    go_roundg (gk - 1)
    case measure => omega
    case rel => exact ⟨k + 1, by go_num, by rw [hnx.out], by omega, by omega, below_drewN hB _⟩
   ·have hnx : Hid (disN f g (k + 1) = disN f g k + 1) := by show _ + _ = _; rw [if_neg heq]
    obtain ⟨D, hD⟩ : ∃ D, D = disN f g k := ⟨_, rfl⟩
    rw [← hD] at hnx hdl
    rw [← hD]
    obtain ⟨x, hx⟩ : ∃ x, x = f k := ⟨_, rfl⟩
    obtain ⟨y, hy⟩ : ∃ x, x = g k := ⟨_, rfl⟩
    rw [← hy] at e2 heq
    rw [← hx] at e0 heq
    have hne : (x != y) = true := by simpa using heq
    have hne2 : (x == y) = false := by simpa using heq
    clear hD hx hy heq
    go_wp2
    go_quiet (fail)
    go_wp2
    go_roundg (gk - 1)
    case measure => omega
    case rel => exact ⟨k + 1, by go_num, by rw [hnx.out]; go_num, by omega, by omega, below_drewN hB _⟩
  ·obtain rfl : k = n := by omega
   have hlt' : ¬ (k : Int) < (k : Int) := by omega
   go_wp2
   go_ret
   exact ⟨rfl, hB⟩
/-- How many of the first words have each weight. -/
def wcnt (n : Nat) (W : Nat → Nat → Int) : Nat → Nat → Nat
 | 0, _ => 0
 | i + 1, t => wcnt n W i t + if disN (W i) (fun _ => 0) n = t then 1 else 0
theorem wcnt_le (n : Nat) (W : Nat → Nat → Int) (i t : Nat) : wcnt n W i t ≤ i := by
 induction i with
 | zero => exact Nat.le_refl _
 | succ i ih => unfold wcnt; split <;> omega
set_option maxRecDepth 100000 in
set_option maxHeartbeats 8000000 in
theorem weights24_any (n : Nat) (T : Option Addr) (N c : Nat) (W : Nat → Nat → Int) (w : World) (h : IntRows w T N (fun _ => n) W) (hN : N ≤ 65536) (hn : n ≤ 64) :
  Calls Tryz.prog 15 #[.int .i64 (n : Nat), .slice T N c] w fun e w' => ∃ A cA, e = .returned (.slice A (n + 1) cA) ∧ n + 1 ≤ cA ∧ cA ≤ maxLen ∧ NatTab w' w'.heap.size A (n + 1) (wcnt n W N) ∧ Below w.heap.size w w' := by
 have hmk1 := fun X => run_makeI (P := Tryz.prog) 22 3 _ 8 Tryz.underlying22 Tryz.infoInt rfl ((n : Int) + 1) (by omega) (by omega) (by omega) X
 have hmk2 := fun X => run_makeI (P := Tryz.prog) 22 3 _ 8 Tryz.underlying22 Tryz.infoInt rfl (n : Int) (by omega) (by omega) (by omega) X
 simp only [show ((n : Int) + 1).toNat = n + 1 by omega, Int.toNat_natCast] at hmk1 hmk2
 have hn0 : (0 : Int) ≤ (n : Int) := by omega
 have hn1 : (n : Int) ≤ 64 := by omega
 have rc := World.rowIs_made w (.int .i64 0) (n + 1) 3
 have hB : Below w.heap.size w (w.alloc (.cells (madeCells #[.int .i64 0] (n + 1)) 3)) := (Below.refl _ _).alloc (Nat.le_refl _) _
 go_enter Tryz.func15, Tryz.ntmps15
 go_upto_region 2 with fail
 obtain ⟨w1, hw1⟩ : ∃ X, X = w.alloc (.cells (madeCells #[.int .i64 0] (n + 1)) 3) := ⟨_, rfl⟩
 obtain ⟨gc, hgc⟩ : ∃ g, g = w.heap.size := ⟨_, rfl⟩
 rw [← hw1, ← hgc]
 rw [← hw1] at rc hB
 rw [← hgc] at rc
 have hgcB : w.heap.size ≤ gc := by omega
 clear hw1 hmk1 hgc
 have rz := World.rowIs_made w1 (.int .i64 0) n 3
 have kb : Below w1.heap.size w1 (w1.alloc (.cells (madeCells #[.int .i64 0] n) 3)) := (Below.refl _ _).alloc (Nat.le_refl _) _
 have hlt1 := rc.lt
 go_wp2
 obtain ⟨w2, hw2⟩ : ∃ X, X = w1.alloc (.cells (madeCells #[.int .i64 0] n) 3) := ⟨_, rfl⟩
 obtain ⟨gz, hgz⟩ : ∃ g, g = w1.heap.size := ⟨_, rfl⟩
 rw [← hw2, ← hgz]
 rw [← hw2] at rz kb
 rw [← hgz] at rz
 have hne : gz ≠ gc := by omega
 replace rc := rowIs_on rc kb
 replace hB := onS hB kb
 clear hw2 hmk2 hgz kb hlt1
 go_loopg [7] N (fun gg iv wx => ∃ i : Nat, iv = .int .i64 (i : Nat) ∧ i ≤ N ∧ N ≤ i + gg ∧ wx.rowIs gc 3 (n + 1) (fun t => .int .i64 (wcnt n W i t : Nat)) ∧ wx.rowIs gz 3 n (fun _ => .int .i64 0) ∧ Below w.heap.size w wx)
 case atStart => exact ⟨0, rfl, by omega, by omega, rc.congr fun t _ => rfl, rz, hB⟩
 case round =>
  clear rc rz hB
  obtain ⟨i, rfl, hi, hig, rc, rz, hB⟩ := hrel
  have hi0 : (0 : Int) ≤ (i : Int) := by omega
  by_cases hlt : i < N
  ·have hlt' : (i : Int) < (N : Int) := by omega
   obtain ⟨b, off, A, ca, rfl, hb, t1, k1, k2, hints, _⟩ := h i hlt
   have t1' := cellS hB t1
   go_wp2_with fail
   refine (distance_any A (some ⟨gz, 0, none⟩) n ca n (W i) (fun _ => 0) _ (hints.on hB) (Rd_of_row rz) (by omega)).mono ?_
   rintro e w2 ⟨rfl, kb⟩
   replace rc := rowIs_on rc kb
   replace rz := rowIs_on rz kb
   replace hB := onS hB kb
   clear kb t1 t1' hints
   have hdl := disN_le (W i) (fun _ => 0) n
   have hnx : ∀ t, wcnt n W (i + 1) t = wcnt n W i t + if disN (W i) (fun _ => 0) n = t then 1 else 0 := fun _ => rfl
   obtain ⟨D, hD⟩ : ∃ D, D = disN (W i) (fun _ => 0) n := ⟨_, rfl⟩
   rw [← hD] at hdl hnx
   rw [← hD]
   clear hD
   have hDn : D < n + 1 := by omega
   have c0 := rc.cell hDn
   have z0 := rc.frozen D
   have hcl := wcnt_le n W i D
   have hset := rc.set D (.int .i64 ((wcnt n W i D + 1 : Nat) : Int))
   obtain ⟨C, hC⟩ : ∃ C, C = wcnt n W i D := ⟨_, rfl⟩
   have rc2 : (w2.setCell ⟨gc, D, none⟩ (.int .i64 ((C : Int) + 1))).rowIs gc 3 (n + 1) (fun t => .int .i64 (wcnt n W (i + 1) t : Nat)) := by
    rw [hC, show ((wcnt n W i D : Nat) : Int) + 1 = ((wcnt n W i D + 1 : Nat) : Int) by omega]
    refine hset.congr fun t ht => ?_
    rw [hnx]
    by_cases e : t = D
    ·rw [if_pos e, if_pos e.symm, e]
    ·rw [if_neg e, if_neg (fun h => e h.symm), Nat.add_zero]
   rw [← hC] at c0 hcl
   have rz2 := rz.setOther (a := ⟨gc, D, none⟩) (by simpa using hne) (.int .i64 ((C : Int) + 1))
   have hB2 := hB.setCell (p := ⟨gc, D, none⟩) hgcB (.int .i64 ((C : Int) + 1))
   have RC := hid rc2
   have RZ := hid rz2
   have HB := hid hB2
   have hD0 : (0 : Int) ≤ (D : Int) := by omega
   have hD1 : (D : Int) < (n : Int) + 1 := by omega
   have hwC : IntKind.i64.wrap ((C : Int) + 1) = (C : Int) + 1 := IntWalk.i64_in _ (by omega)
   clear hset rc rz hB rc2 rz2 hB2 hnx hC
   go_wp2
   clear hwC
   go_roundg (gk - 1)
   case measure => omega
   case rel => exact ⟨i + 1, by go_num, by omega, by omega, RC.out, RZ.out, HB.out⟩
  ·obtain rfl : i = N := by omega
   have hlt' : ¬ (i : Int) < (i : Int) := by omega
   have hcl := fun t => wcnt_le n W i t
   obtain ⟨X, hX⟩ : ∃ X, X = wcnt n W i := ⟨_, rfl⟩
   rw [← hX] at rc hcl
   have HX := hid hX
   have HCL := hid hcl
   clear hX hcl
   obtain ⟨w3, hw3⟩ : ∃ X, X = wr := ⟨_, rfl⟩
   rw [← hw3] at rc rz hB ⊢
   clear hw3
   have hO : NatOwn w3 w3.heap.size (.slice none 0 0) 0 X := NatOwn.nil _ _ _
   have hk0 : Below w3.heap.size w3 w3 := Below.refl _ _
   go_wp2
   go_loopg [8, 9] (n + 1) (fun gg ov iv wx => ∃ (t : Nat) (v : Value), v = ov ∧ iv = .int .i64 (t : Nat) ∧ t ≤ n + 1 ∧ n + 1 ≤ t + gg ∧ NatOwn wx w3.heap.size v t X ∧ Below w3.heap.size w3 wx)
   case atStart => exact ⟨0, _, rfl, rfl, by omega, by omega, hO, hk0⟩
   case round =>
    clear hO hk0
    obtain ⟨t, v, rfl, rfl, ht, htg, hO, hk⟩ := hrel
    have ht0 : (0 : Int) ≤ (t : Int) := by omega
    by_cases hltt : t < n + 1
    ·have hltt' : (t : Int) ≤ (n : Int) := by omega
     have hltt2 : (t : Int) < (n : Int) + 1 := by omega
     have c0 := (rowIs_on rc hk).cell hltt
     have hcl := HCL.out t
     obtain ⟨C, hC⟩ : ∃ C, C = X t := ⟨_, rfl⟩
     rw [← hC] at c0 hcl
     have HC := hid hC
     clear hC
     have hC0 : (0 : Int) ≤ (C : Int) := by omega
     have hC1 : (C : Int) ≤ 65536 := by omega
     have hdC : dl C ≤ 1 := dl_le (by omega)
     go_wp2_with fail
     refine (refOf_any C _ (by omega)).mono ?_
     rintro e w4 ⟨A2, c2, rfl, m3, m4, m1, kb⟩
     replace hO := hO.on kb
     replace hk := onS hk kb
     clear kb c0
     have hsz := hk.size
     have kb2 := below_one w4 (.cells #[.slice A2 (dl C) c2] 29)
     have hO2 := hid (hO.on kb2)
     have hm1 := hid (m1.on kb2)
     have hk2 := hid (onS hk kb2)
     have hcell : Hid ((w4.alloc (.cells #[.slice A2 (dl C) c2] 29)).cell? ⟨w4.heap.size, 0, none⟩ = some (.slice A2 (dl C) c2)) := World.cell?_alloc_at _ _ _ _ rfl
     clear hO hk kb2 m1
     go_wp2_with (first | (at_builtin; (refine wpList_append_nat rfl (.tmp 37) (.tmp 44) rfl w3.heap.size v t X rfl hO2.out (by simp; omega) (by omega) w4.heap.size 1 rfl A2 c2 C HC.out.symm hcell.out hm1.out m3 m4 ?_); intro v' w6 hO6 hk6))
     have hk7 := hk2.out.trans hk6
     clear hk6 hO2 hk2 hcell hm1
     go_wp2
     go_roundg (gk - 1)
     case measure => omega
     case rel => exact ⟨t + 1, v', rfl, by go_num, by omega, by omega, hO6, hk7⟩
    ·obtain ⟨n2, hn2⟩ : ∃ m, m = n + 1 := ⟨_, rfl⟩
     obtain rfl : t = n2 := by omega
     have hltt' : ¬ (t : Int) ≤ (n : Int) := by omega
     obtain ⟨A, cA, rfl, g1, g2, htab⟩ := hO.tab
     have HT := hid htab
     have hB3 := onS hB hk
     clear hO htab
     go_wp2
     go_ret
     exact ⟨A, cA, rfl, by omega, g2, by rw [← hn2, ← HX.out]; exact HT.out, hB3⟩
/-- The probability of one error word of weight w. -/
def patR (q n v i : Nat) : Rat := if i < v then 0 else rv (decide ((i - v) % 2 = 1)) (chs (n - v) (i - v)) ((q - 1) ^ v)
theorem dl_qpow {q n : Nat} (hq : q < 65536) (hn : n ≤ 128) : dl (q ^ n) ≤ 65 := by
 have key : ∀ L, L = 64 → q ^ n < 4294967296 ^ (L + 1) := by
  intro L hL
  have h1 : q ^ n ≤ 65536 ^ n := Nat.pow_le_pow_left (by omega) n
  have h2 : (65536 : Nat) ^ n ≤ 65536 ^ (2 * L) := Nat.pow_le_pow_right (by omega) (by omega)
  have h3 : (65536 : Nat) ^ (2 * L) = 4294967296 ^ L := by rw [Nat.pow_mul]
  have h4 : (4294967296 : Nat) ^ L < 4294967296 ^ (L + 1) := Nat.pow_lt_pow_right (by omega) (by omega)
  omega
 exact dl_le (key 64 rfl)
set_option maxRecDepth 100000 in
set_option maxHeartbeats 8000000 in
theorem chPattern_any (q n v : Nat) (w : World) (hq : 2 ≤ q) (hq2 : q ≤ 256) (hn : n ≤ 64) (hv : v ≤ n) :
  Calls Tryz.prog 72 #[.int .i64 (q : Nat), .int .i64 (n : Nat), .int .i64 (v : Nat)] w (PolyPost (n + 1) (patR q n v) w) := by
 have hq1 : ((q : Int) - 1) = ((q - 1 : Nat) : Int) := by omega
 have hn1 : ((n : Int) + 1) = ((n + 1 : Nat) : Int) := by omega
 have hnv : ((n : Int) - (v : Int)) = ((n - v : Nat) : Int) := by omega
 have hd := dl_qpow (q := q - 1) (n := v) (by omega) (by omega)
 have hq1d : dl (q - 1) ≤ 1 := dl_le (by omega)
 have hl := nlen_le (x := q - 1) (k := 16) (by omega)
 have hm : (nlen (q - 1) - 1) * v ≤ 15 * 128 := Nat.mul_le_mul (by omega) (by omega)
 have hv0 : (0 : Int) ≤ (v : Int) := by omega
 have hn0 : (0 : Int) ≤ (n : Int) := by omega
 have hq0 : (2 : Int) ≤ (q : Int) := by omega
 have hq3 : (q : Int) ≤ 256 := by omega
 obtain ⟨M, hM⟩ : ∃ M, M = n + 1 := ⟨_, rfl⟩
 rw [← hM] at hn1 ⊢
 have hMn : M = n + 1 := hM
 have hM1 : n + 1 ≤ M := by omega
 have hM2 : M ≤ n + 1 := by omega
 have HM := hid hM
 clear hM hMn
 obtain ⟨S, hSe⟩ : ∃ S, S = patR q n v := ⟨_, rfl⟩
 rw [← hSe]
 have HSE := hid hSe
 clear hSe
 obtain ⟨d, hde⟩ : ∃ d, d = (q - 1) ^ v := ⟨_, rfl⟩
 rw [← hde] at hd
 have HDE := hid hde
 clear hde
 have hmk := fun W => run_makeRat M (by omega) W
 go_enter Tryz.func72, Tryz.ntmps72
 go_wp2_with fail
 refine (natOf_any (q - 1) w (by omega)).mono ?_
 rintro e w1 ⟨A, c, rfl, h1, h2, h3, h4⟩
 go_wp2_with fail
 refine (natPow_any A c (q - 1) v w1 h3 h1 h2 (by omega) (by omega) (.inr (by omega)) (by rw [← HDE.out]; omega)).mono ?_
 rintro e w2 ⟨Bd, cd, rfl, d1, d2, d3, d4⟩
 rw [← HDE.out] at d1 d3 ⊢
 have hB := onS h4 d4
 clear d4 h1 h2 h3 h4 hq1d hl hm
 have kb := below_one w2 (.cells (madeCells #[.bool false, .slice none 0 0, .slice none 0 0] (M * 3)) 31)
 have row := rowOk_made w2 M S
 have hgB := hB.size
 replace d3 := d3.on kb
 replace hB := onS hB kb
 clear kb
 go_wp2
 obtain ⟨w3, hw1⟩ : ∃ W, W = w2.alloc (.cells (madeCells #[.bool false, .slice none 0 0, .slice none 0 0] (M * 3)) 31) := ⟨_, rfl⟩
 obtain ⟨g, hg⟩ : ∃ g, g = w2.heap.size := ⟨_, rfl⟩
 rw [← hw1, ← hg]
 rw [← hw1] at hB row d3
 rw [← hg] at row hgB
 clear hw1 hg hmk
 go_loopg [27] v (fun gg iv wx => ∃ j : Nat, iv = .int .i64 (j : Nat) ∧ j ≤ v ∧ v ≤ j + gg ∧ RowOk wx g M j S ∧ NatOk wx wx.heap.size Bd d ∧ Below w.heap.size w wx)
 case atStart => exact ⟨0, rfl, by omega, by omega, row, d3, hB⟩
 case round =>
  clear row hB d3
  obtain ⟨j, rfl, hj, hjg, row, d3, hB⟩ := hrel
  have hj0 : (0 : Int) ≤ (j : Int) := by omega
  by_cases hlt : j < v
  ·have hlt' : (j : Int) < (v : Int) := by omega
   have hltM : (j : Int) < (M : Int) := by omega
   obtain ⟨w0, hw0⟩ : ∃ W, W = wr := ⟨_, rfl⟩
   rw [← hw0] at row hB d3 ⊢
   clear hw0
   go_wp2_with fail
   refine (chZero_any _).mono ?_
   rintro e w1 ⟨Ap, cp, Bp, dp, rfl, mp1, mp2, mp3, mp4, mp5, mp6, kb⟩
   replace row := row.on kb
   replace hB := onS hB kb
   replace d3 := d3.on kb
   clear kb
   obtain ⟨q0, hq0⟩ : ∃ q : Rat, q = (0 : Rat) := ⟨_, rfl⟩
   rw [← hq0] at mp1 mp2 mp3 mp5 ⊢
   replace hq0 : q0 = 0 := hq0.trans (by rfl)
   have HQ0 := hid hq0
   have HSZq0 : rsz q0 1 := by rw [hq0]; exact rsz_zero
   clear hq0
   obtain ⟨o0, o1, o2, y0, y1, y2⟩ := row.old (j) (by omega)
   have z0 := row.froz (j * 3)
   have z1 := row.froz (j * 3 + 1)
   have z2 := row.froz (j * 3 + 2)
   have hsz := hB.size
   go_upto_region 7 with fail
   generalize hw3 : World.setCell _ _ _ = w2
   have hst : RowPut w1 g M (j) (j) (S) q0 w2 := by rw [← hw3]; exact rowPut row (by omega) (by omega) mp1 mp2 mp3 mp4 mp5 mp6
   clear hw3 mp1 mp2 mp3 mp4 mp5 mp6
   replace row := hst.row
   replace hB := hst.below hB hgB hsz
   replace d3 := hst.nat _ _ _ d3
   rw [← hst.size] at d3
   clear hst
   rw [show max j (j + 1) = j + 1 by omega] at row
   clear y0 y1 y2 z0 z1 z2 hsz
   replace row := row.whole (show q0 = S j by rw [HSE.out, HQ0.out]; simp [patR, hlt])
   clear HSZq0 HQ0
   go_wp2
   go_roundg (gk - 1)
   case measure => omega
   case rel => exact ⟨j + 1, by go_num, by omega, by omega, row, d3, hB⟩
  ·obtain rfl : j = v := by omega
   have hlt' : ¬ (j : Int) < (j : Int) := by omega
   go_wp2
   obtain ⟨w0, hw0⟩ : ∃ W, W = wr := ⟨_, rfl⟩
   rw [← hw0] at row hB d3 ⊢
   clear hw0 hlt hlt'
   obtain ⟨gK, rfl⟩ : ∃ gK : Nat, gK = gk := ⟨_, rfl⟩
   go_loopg [11] M (fun gg iv wx => ∃ i : Nat, iv = .int .i64 (i : Nat) ∧ j + i ≤ M ∧ M ≤ i + gg ∧ RowOk wx g M (j + i) S ∧ NatOk wx wx.heap.size Bd d ∧ Below w.heap.size w wx)
   case atStart => exact ⟨0, rfl, by omega, by omega, row, d3, hB⟩
   case round =>
    clear row hB d3
    obtain ⟨i, rfl, hi, hig, row, d3, hB⟩ := hrel
    have hi0 : (0 : Int) ≤ (i : Int) := by omega
    have hij : (j : Int) + (i : Int) = ((j + i : Nat) : Int) := by omega
    by_cases hlt : j + i < M
    ·have hle : ((j + i : Nat) : Int) ≤ (n : Int) := by omega
     have hltM : ((j + i : Nat) : Int) < (M : Int) := by omega
     have hji0 : (0 : Int) ≤ ((j + i : Nat) : Int) := by omega
     have hdc := dl_chs (n - j) i (by omega)
     have hval : S (j + i) = rv ((i : Int) % 2 == 1) (chs (n - j) i) d := by rw [HSE.out, HDE.out]; simp only [patR]; rw [if_neg (by omega), show j + i - j = i by omega]; congr 1; rw [Bool.eq_iff_iff]; simp; omega
     obtain ⟨P, hP⟩ : ∃ P, P = j + i := ⟨_, rfl⟩
     rw [← hP] at hij hle hltM hji0 hval row hlt hi
     obtain ⟨w1, hw0⟩ : ∃ W, W = wr := ⟨_, rfl⟩
     rw [← hw0] at row hB d3 ⊢
     have HP := hid hP
     have HV := hid hval
     clear hw0 hP hval
     go_wp2_with fail
     refine (binomial_any (n - j) i _ (by omega) (by have := HP.out; omega)).mono ?_
     rintro e w2 ⟨Ac, cc, rfl, b1, b2, b3, kb⟩
     replace row := row.on kb
     replace hB := onS hB kb
     replace d3 := d3.on kb
     clear kb
     obtain ⟨ch, hch⟩ : ∃ x, x = chs (n - j) i := ⟨_, rfl⟩
     rw [← hch] at b1 b3 hdc ⊢
     have HCH := hid hch
     clear hch
     have hraw : RatRaw _ _ (.agg #[.bool ((i : Int) % 2 == 1), .slice Ac (dl ch) cc, .slice Bd (dl d) cd]) (S P) 4096 := ⟨_, Ac, _, cc, Bd, _, cd, ch, d, rfl, b3.raw, d3.raw, b1, b2, d1, d2, by omega, by omega, by rw [HV.out, HCH.out]⟩
     go_wp2_with fail
     refine (ratTrim_any _ (S P) 4096 _ hraw (by omega)).mono ?_
     rintro e w3 ⟨Ap, cp, Bp, dp, rfl, mp1, mp2, mp3, mp4, mp5, mp6, kb⟩
     replace row := row.on kb
     replace hB := onS hB kb
     replace d3 := d3.on kb
     replace b3 := b3.on kb
     replace hraw := hraw.on kb
     clear kb
     clear hraw b1 b2 b3 HCH HV hdc
     obtain ⟨q1, hq1'⟩ : ∃ z, z = S P := ⟨_, rfl⟩
     rw [← hq1'] at mp1 mp2 mp3 mp5 ⊢
     have HQ1 := hid hq1'
     clear hq1'
     obtain ⟨o0, o1, o2, y0, y1, y2⟩ := row.old (P) (by omega)
     have z0 := row.froz (P * 3)
     have z1 := row.froz (P * 3 + 1)
     have z2 := row.froz (P * 3 + 2)
     have hsz := hB.size
     go_upto_region 10 with fail
     generalize hw3 : World.setCell _ _ _ = w4
     have hst : RowPut w3 g M (P) (P) (S) q1 w4 := by rw [← hw3]; exact rowPut row (by omega) (by omega) mp1 mp2 mp3 mp4 mp5 mp6
     clear hw3 mp1 mp2 mp3 mp4 mp5 mp6
     replace row := hst.row
     replace hB := hst.below hB hgB hsz
     replace d3 := hst.nat _ _ _ d3
     rw [← hst.size] at d3
     clear hst
     rw [show max P (P + 1) = P + 1 by omega] at row
     replace row := row.whole HQ1.out
     rw [show P + 1 = j + (i + 1) by have := HP.out; omega] at row
     clear y0 y1 y2 z0 z1 z2 hsz HQ1
     go_wp2
     go_roundg (gk - 1)
     case measure => omega
     case rel => exact ⟨i + 1, by go_num, by have := HP.out; omega, by omega, row, d3, hB⟩
    ·obtain ⟨P, hP⟩ : ∃ P, P = j + i := ⟨_, rfl⟩
     rw [← hP] at hij row hi hlt
     clear hP
     obtain rfl : P = M := by omega
     have hle : ¬ (P : Int) ≤ (n : Int) := by omega
     have hl := row.list
     go_wp2
     go_ret
     exact ⟨_, _, rfl, Nat.le_refl _, by unfold maxLen; omega, hl, hB⟩
theorem clen_top {rs : Nat → Rat} {m : Nat} (h : rs m ≠ 0) : clen rs (m + 1) = m + 1 := by simp [clen, h]
theorem clen_skip {rs : Nat → Rat} {m : Nat} (h : rs m = 0) : clen rs (m + 1) = clen rs m := by simp [clen, h]
theorem outP_pair (R : Nat → Rat) (c0 c1 : Rat) : ∀ i p, outP R (pairR c0 c1) 2 i p = (if p < i then R p * c0 else 0) + (if p ≠ 0 ∧ p - 1 < i then R (p - 1) * c1 else 0) := by
 intro i
 induction i with
 | zero => intro p; show (0 : Rat) = _; simp [Rat.zero_add]
 | succ i ih =>
  intro p
  show updR (updR (outP R (pairR c0 c1) 2 i) (i + 0) (outP R (pairR c0 c1) 2 i (i + 0) + R i * c0)) (i + 1) (updR (outP R (pairR c0 c1) 2 i) (i + 0) (outP R (pairR c0 c1) 2 i (i + 0) + R i * c0) (i + 1) + R i * c1) p = _
  by_cases h1 : p = i + 1
  ·subst h1
   simp only [updR, if_pos, Nat.add_zero]
   rw [if_neg (show ¬ i + 1 = i by omega), ih, if_neg (show ¬ i + 1 < i by omega), if_neg (show ¬ (i + 1 ≠ 0 ∧ i + 1 - 1 < i) by omega), if_neg (show ¬ i + 1 < i + 1 by omega), if_pos (show i + 1 ≠ 0 ∧ i + 1 - 1 < i + 1 by omega), show i + 1 - 1 = i by omega]
   clear ih; grind
  ·simp only [updR, if_neg h1, Nat.add_zero]
   by_cases h2 : p = i
   ·subst h2
    rw [if_pos rfl, ih, if_neg (show ¬ p < p by omega), if_pos (show p < p + 1 by omega)]
    clear ih
    by_cases h3 : p = 0
    ·rw [if_neg (show ¬ (p ≠ 0 ∧ p - 1 < p) by omega), if_neg (show ¬ (p ≠ 0 ∧ p - 1 < p + 1) by omega)]; generalize R p = x; grind
    ·rw [if_pos (show p ≠ 0 ∧ p - 1 < p by omega), if_pos (show p ≠ 0 ∧ p - 1 < p + 1 by omega)]; generalize R p = x; generalize R (p - 1) = y; grind
   ·rw [if_neg h2, ih]
    clear ih
    by_cases h4 : p < i
    ·rw [if_pos h4, if_pos (show p < i + 1 by omega)]
     by_cases h3 : p = 0
     ·rw [if_neg (show ¬ (p ≠ 0 ∧ p - 1 < i) by omega), if_neg (show ¬ (p ≠ 0 ∧ p - 1 < i + 1) by omega)]
     ·rw [if_pos (show p ≠ 0 ∧ p - 1 < i by omega), if_pos (show p ≠ 0 ∧ p - 1 < i + 1 by omega)]
    ·rw [if_neg h4, if_neg (show ¬ p < i + 1 by omega), if_neg (show ¬ (p ≠ 0 ∧ p - 1 < i) by omega), if_neg (show ¬ (p ≠ 0 ∧ p - 1 < i + 1) by omega)]
/-- The powers as they are computed. -/
def pwP (a : Nat → Rat) (m : Nat) : Nat → Nat × (Nat → Rat)
 | 0 => (1, fun i => if i = 0 then ((1 : Int) : Rat) else 0)
 | k + 1 => (clen (mulP (pwP a m k).2 (pwP a m k).1 a m) ((pwP a m k).1 + m), mulP (pwP a m k).2 (pwP a m k).1 a m)
theorem pwP_mono (u : Rat) (hu : u ≠ 0) : ∀ k, (pwP (pairR 0 u) 2 k).1 = k + 1 ∧ ∀ i, i < k + 1 → (pwP (pairR 0 u) 2 k).2 i = if i = k then powR u k else 0 := by
  have hp : ∀ k, powR u k ≠ 0 := fun k => by
    induction k with
    | zero => show (1 : Rat) ≠ 0; decide
    | succ k ih => intro h; rcases Rat.mul_eq_zero.1 (show powR u k * u = 0 from h) with h | h; exact ih h; exact hu h
  intro k
  induction k with
  | zero => exact ⟨rfl, fun i hi => by obtain rfl : i = 0 := by omega
                                       rfl⟩
  | succ k ih =>
    obtain ⟨ih1, ih2⟩ := ih
    have val : ∀ p, p < k + 1 + 2 → (pwP (pairR 0 u) 2 (k + 1)).2 p = if p = k + 1 then powR u (k + 1) else 0 := by
      intro p hp
      show outP _ (pairR 0 u) 2 (pwP (pairR 0 u) 2 k).1 p = _
      rw [outP_pair, ih1]
      by_cases h1 : p = k + 1
      · subst h1
        rw [if_neg (by omega), if_pos ⟨by omega, by omega⟩, if_pos rfl, ih2 _ (by omega), if_pos (by omega)]
        show 0 + powR u k * u = powR u k * u
        grind
      · rw [if_neg h1]
        have e1 : (if p < k + 1 then (pwP (pairR 0 u) 2 k).2 p * 0 else 0) = (0 : Rat) := by split <;> grind
        rw [e1]
        by_cases h3 : p ≠ 0 ∧ p - 1 < k + 1
        · rw [if_pos h3, ih2 _ (by omega), if_neg (by omega)]; grind
        · rw [if_neg h3]; grind
    refine ⟨?_, fun i hi => val i (by omega)⟩
    show clen (pwP (pairR 0 u) 2 (k + 1)).2 ((pwP (pairR 0 u) 2 k).1 + 2) = _
    rw [ih1]
    rw [clen_skip (by rw [val _ (by omega), if_neg (by omega)]), clen_top (by rw [val _ (by omega), if_pos rfl]; exact hp _)]
/-- A number with the sign of an index. -/
def sg (i c : Nat) : Rat := (((if i % 2 = 1 then -(c : Int) else (c : Int)) : Int) : Rat)
theorem sg_succ (i c : Nat) : sg (i + 1) c = -sg i c := by
 unfold sg
 by_cases h : i % 2 = 1
 ·rw [if_neg (by omega), if_pos h, Rat.intCast_neg]; grind
 ·rw [if_pos (by omega), if_neg h, Rat.intCast_neg]
theorem sg_add (i c d : Nat) : sg i (c + d) = sg i c + sg i d := by
 unfold sg
 by_cases h : i % 2 = 1
 ·rw [if_pos h, if_pos h, if_pos h, ← Rat.intCast_add]; congr 1; omega
 ·rw [if_neg h, if_neg h, if_neg h, ← Rat.intCast_add]; congr 1
theorem sg_ne {i c : Nat} (h : c ≠ 0) : sg i c ≠ 0 := by
 unfold sg
 intro e
 have : (if i % 2 = 1 then -(c : Int) else (c : Int)) = 0 := by exact_mod_cast e
 split at this <;> omega
theorem pwP_altc {c0 c1 : Rat} (f0 : c0 = 1) (f1 : c1 = -1) : ∀ k, (pwP (pairR c0 c1) 2 k).1 = k + 1 ∧ ∀ i, i < k + 1 → (pwP (pairR c0 c1) 2 k).2 i = sg i (chs k i) := by
  intro k
  induction k with
  | zero => exact ⟨rfl, fun i hi => by obtain rfl : i = 0 := by omega
                                       rfl⟩
  | succ k ih =>
    obtain ⟨ih1, ih2⟩ := ih
    have val : ∀ p, p < k + 1 + 2 → (pwP (pairR c0 c1) 2 (k + 1)).2 p = sg p (chs (k + 1) p) := by
      intro p hp
      show outP _ _ 2 (pwP (pairR c0 c1) 2 k).1 p = _
      rw [outP_pair, ih1]
      cases p with
      | zero =>
        rw [if_pos (by omega), if_neg (by omega), ih2 0 (by omega), chs_zero, chs_zero, f0]
        grind
      | succ p =>
        have e1 : (if p + 1 < k + 1 then (pwP (pairR c0 c1) 2 k).2 (p + 1) * c0 else 0) = sg (p + 1) (chs k (p + 1)) := by
          split
          · rw [ih2 _ (by omega), f0]; generalize sg _ _ = z; grind
          · rw [chs_gt (by omega)]; unfold sg; simp
        have e2 : (if p + 1 ≠ 0 ∧ p + 1 - 1 < k + 1 then (pwP (pairR c0 c1) 2 k).2 (p + 1 - 1) * c1 else 0) = sg (p + 1) (chs k p) := by
          rw [Nat.add_sub_cancel]
          split
          · rw [ih2 _ (by omega), sg_succ, f1]; generalize sg _ _ = z; grind
          · rw [chs_gt (by omega)]; unfold sg; simp
        rw [e1, e2]
        show _ = sg (p + 1) (chs k p + chs k (p + 1))
        rw [sg_add]; grind
    refine ⟨?_, fun i hi => val i (by omega)⟩
    show clen (pwP (pairR c0 c1) 2 (k + 1)).2 ((pwP (pairR c0 c1) 2 k).1 + 2) = _
    rw [ih1]
    rw [clen_skip (by rw [val _ (by omega), chs_gt (by omega)]; unfold sg; simp), clen_top (by rw [val _ (by omega), chs_self]; exact sg_ne (by omega))]
theorem pwP_alt (k : Nat) : (pwP (pairR ((1 : Int) : Rat) (((-1 : Int)) : Rat)) 2 k).1 = k + 1 ∧ ∀ i, i < k + 1 → (pwP (pairR ((1 : Int) : Rat) (((-1 : Int)) : Rat)) 2 k).2 i = sg i (chs k i) := pwP_altc rfl rfl k
/-- A product with one entry at v. -/
theorem mulP_mono {A B : Nat → Rat} {v mB : Nat} {U : Rat} (hA : ∀ i, i < v + 1 → A i = if i = v then U else 0) (p : Nat) : mulP A (v + 1) B mB p = if v ≤ p ∧ p < v + mB then U * B (p - v) else 0 := by
 have z : ∀ i, i ≤ v → ∀ p, outP A B mB i p = 0 := by
  intro i
  induction i with
  | zero => intro _ p; rfl
  | succ i ih =>
   intro hi
   have : ∀ j p, inP A B i (outP A B mB i) j p = 0 := by
    intro j
    induction j with
    | zero => intro p; exact ih (by omega) p
    | succ j ihj =>
     intro p
     show updR _ _ _ p = 0
     unfold updR
     split
     ·rw [ihj, hA i (by omega), if_neg (by omega)]; grind
     ·exact ihj p
   exact this mB
 have key : ∀ j p, inP A B v (outP A B mB v) j p = if v ≤ p ∧ p < v + j then U * B (p - v) else 0 := by
  intro j
  induction j with
  | zero => intro p; rw [if_neg (by omega)]; exact z v (Nat.le_refl _) p
  | succ j ih =>
   intro p
   show updR _ _ _ p = _
   unfold updR
   by_cases e : p = v + j
   ·subst e
    rw [if_pos rfl, if_pos ⟨by omega, by omega⟩, ih, if_neg (by omega), hA v (by omega), if_pos rfl, show v + j - v = j by omega]; grind
   ·rw [if_neg e, ih]
    by_cases h : v ≤ p ∧ p < v + j
    ·rw [if_pos h, if_pos ⟨h.1, by omega⟩]
    ·rw [if_neg h, if_neg (by omega)]
 exact key mB p
theorem powR_inv (d : Nat) (v : Nat) : powR (mkRat 1 d) v = mkRat 1 (d ^ v) := by
 induction v with
 | zero => show (1 : Rat) = mkRat 1 (d ^ 0); rw [Nat.pow_zero]; decide +kernel
 | succ v ih => show powR _ v * _ = _; rw [ih, Rat.mkRat_mul_mkRat, Nat.pow_succ]; simp
theorem mkRat_ne {d : Nat} (h : d ≠ 0) : mkRat 1 d ≠ 0 := by
 intro e
 have := (Rat.mkRat_eq_zero h).1 e
 omega
theorem sg_rv (U : Nat) (j c : Nat) : mkRat 1 U * sg j c = rv (decide (j % 2 = 1)) c U := by
 unfold sg rv
 rw [← Rat.mkRat_one, Rat.mkRat_mul_mkRat]
 simp
/-- Pattern as the reference computes it. -/
theorem pat_eq {q n v : Nat} (hq : 2 ≤ q) (hv : v ≤ n) :
  clen (mulP (pwP (pairR 0 (mkRat 1 (q - 1))) 2 v).2 (pwP (pairR 0 (mkRat 1 (q - 1))) 2 v).1 (pwP (pairR ((1 : Int) : Rat) (((-1 : Int)) : Rat)) 2 (n - v)).2 (pwP (pairR ((1 : Int) : Rat) (((-1 : Int)) : Rat)) 2 (n - v)).1)
   ((pwP (pairR 0 (mkRat 1 (q - 1))) 2 v).1 + (pwP (pairR ((1 : Int) : Rat) (((-1 : Int)) : Rat)) 2 (n - v)).1) = n + 1 ∧
  ∀ i, i < n + 1 → mulP (pwP (pairR 0 (mkRat 1 (q - 1))) 2 v).2 (pwP (pairR 0 (mkRat 1 (q - 1))) 2 v).1 (pwP (pairR ((1 : Int) : Rat) (((-1 : Int)) : Rat)) 2 (n - v)).2 (pwP (pairR ((1 : Int) : Rat) (((-1 : Int)) : Rat)) 2 (n - v)).1 i = patR q n v i := by
 have hu : mkRat 1 (q - 1) ≠ 0 := mkRat_ne (by omega)
 obtain ⟨a1, a2⟩ := pwP_mono (mkRat 1 (q - 1)) hu v
 obtain ⟨b1, b2⟩ := pwP_alt (n - v)
 rw [a1, b1]
 have hU : powR (mkRat 1 (q - 1)) v = mkRat 1 ((q - 1) ^ v) := powR_inv _ _
 have hne : mkRat 1 ((q - 1) ^ v) ≠ 0 := mkRat_ne (by have := Nat.pow_pos (n := v) (show 0 < q - 1 by omega); omega)
 have val : ∀ i, mulP (pwP (pairR 0 (mkRat 1 (q - 1))) 2 v).2 (v + 1) (pwP (pairR ((1 : Int) : Rat) (((-1 : Int)) : Rat)) 2 (n - v)).2 (n - v + 1) i = if v ≤ i ∧ i < n + 1 then mkRat 1 ((q - 1) ^ v) * sg (i - v) (chs (n - v) (i - v)) else 0 := by
  intro i
  rw [mulP_mono a2, hU]
  by_cases h : v ≤ i ∧ i < n + 1
  ·rw [if_pos h, if_pos ⟨h.1, by omega⟩, b2 _ (by omega)]
  ·rw [if_neg h, if_neg (by omega)]
 refine ⟨?_, fun i hi => ?_⟩
 ·rw [show v + 1 + (n - v + 1) = n + 1 + 1 by omega, clen_skip (by rw [val, if_neg (by omega)]), clen_top]
  rw [val, if_pos ⟨by omega, by omega⟩, chs_self]
  intro e
  rcases Rat.mul_eq_zero.1 e with e | e
  ·exact hne e
  ·exact sg_ne (by omega) e
 ·rw [val]
  unfold patR
  by_cases h : v ≤ i
  ·rw [if_pos ⟨h, hi⟩, if_neg (by omega), sg_rv]
  ·rw [if_neg (by omega), if_pos (by omega)]
theorem cutR_clen (rs : Nat → Rat) (m i : Nat) : cutR rs (clen rs m) i = cutR rs m i := by
 have := clen_le rs m
 unfold cutR
 by_cases h : i < clen rs m
 ·rw [if_pos h, if_pos (by omega)]
 ·rw [if_neg h]
  by_cases h2 : i < m
  ·rw [if_pos h2, clen_zero (rs := rs) (m := m) (i := i) (by omega) h2]
  ·rw [if_neg h2]
theorem cutR_sumP (a b : Nat → Rat) (m m' i : Nat) : cutR (sumP a m b m') (max m m') i = cutR a m i + cutR b m' i := by
 unfold cutR
 by_cases h : i < max m m'
 ·rw [if_pos h]; rfl
 ·rw [if_neg h, if_neg (by omega), if_neg (by omega), Rat.add_zero]
/-- What Pattern leaves. -/
def PolyOk (n : Nat) (rs : Nat → Rat) (w : World) (e : Ending) (w' : World) : Prop :=
 ∃ A c, e = .returned (.tuple #[.slice A n c, .int .i64 0]) ∧ n ≤ c ∧ c ≤ maxLen ∧ RatList w' w'.heap.size A n rs ∧ Below w.heap.size w w'
theorem rsz_nat {x : Nat} {L : Nat} (h : dl x ≤ L) (hL : 1 ≤ L) : rsz (x : Rat) L := by
 refine ⟨?_, ?_⟩
 ·show dl (x : Int).natAbs ≤ L
  simpa using h
 ·show dl 1 ≤ L
  rw [dl_one]; exact hL
/-- A slice of numbers of limbs of any kind, at most N each. -/
def NatRTab (w : World) (B : Nat) (T : Option Addr) (m : Nat) (xs : Nat → Nat) (N : Nat) : Prop :=
 ∀ i, i < m → ∃ b off A n c, T = some ⟨b, off, none⟩ ∧ b < B ∧ w.cell? ⟨b, off + i, none⟩ = some (.slice A n c) ∧ NatRaw w B A n (xs i) ∧ n ≤ c ∧ c ≤ maxLen ∧ n ≤ N
/-- One is longer than 8. -/
def largeB (ln : Nat → Nat) : Nat → Bool
 | 0 => false
 | k + 1 => largeB ln k || decide (8 < ln k)
def cl2 (p : Nat × (Nat → Rat)) (i : Nat) : Rat := cutR p.2 p.1 i
/-- x times the probability of a word of weight k. -/
def tmP (q n x k : Nat) : Nat × (Nat → Rat) := (clen (mulP (fun _ => (x : Rat)) 1 (patR q n k) (n + 1)) (1 + (n + 1)), mulP (fun _ => (x : Rat)) 1 (patR q n k) (n + 1))
def adP (a b : Nat × (Nat → Rat)) : Nat × (Nat → Rat) := (clen (sumP a.2 a.1 b.2 b.1) (max a.1 b.1), sumP a.2 a.1 b.2 b.1)
/-- The sums as the program has them: what is 0 is passed over. -/
def wtP (q n : Nat) (xs : Nat → Nat) : Nat → Nat × (Nat → Rat)
 | 0 => (0, fun _ => 0)
 | k + 1 => if xs k = 0 then wtP q n xs k else adP (wtP q n xs k) (tmP q n (xs k) k)
/-- Sizes. -/
theorem rsz_cl2 {p : Nat × (Nat → Rat)} {N : Nat} (h : ∀ i, rsz (cl2 p i) N) : ∀ i, i < p.1 → rsz (p.2 i) N := fun i hi => by
 have := h i
 unfold cl2 cutR at this
 rwa [if_pos hi] at this
theorem rsz_pat {q n k : Nat} (hq : 2 ≤ q) (hq2 : q ≤ 256) (hn : n ≤ 64) (hk : k ≤ 64) (i : Nat) : rsz (patR q n k i) 200 := by
 unfold patR
 split
 ·exact rsz_zero.mono (by omega)
 ·exact rsz_rv (by have := dl_chs (n - k) (i - k) (by omega); omega) (by have := dl_qpow (q := q - 1) (n := k) (by omega) (by omega); omega) (by omega)
theorem rsz_tm {q n x k : Nat} (hq : 2 ≤ q) (hq2 : q ≤ 256) (hn : n ≤ 64) (hk : k ≤ 64) (hx : dl x ≤ 8) (i : Nat) : rsz ((tmP q n x k).2 i) 500 :=
 (rsz_outP (N := 200) (a := fun _ => (x : Rat)) (b := patR q n k) (m := 1) (m' := n + 1) (fun _ _ => rsz_nat (by omega) (by omega)) (fun i _ => rsz_pat hq hq2 hn hk i) 1 (Nat.le_refl _) i).mono (by omega)
theorem rsz_cut {rs : Nat → Rat} {m N : Nat} (h : ∀ i, rsz (rs i) N) (i : Nat) : rsz (cutR rs m i) N := by
 unfold cutR
 split
 ·exact h i
 ·exact rsz_zero.mono (rsz_pos (h 0))
theorem rsz_ad {a b : Nat × (Nat → Rat)} {N M : Nat} (h1 : ∀ i, rsz (cl2 a i) N) (h2 : ∀ i, rsz (b.2 i) M) (i : Nat) : rsz (cl2 (adP a b) i) (N + M + 1) := by
 show rsz (cutR (sumP a.2 a.1 b.2 b.1) (clen _ _) i) _
 rw [cutR_clen, cutR_sumP]
 exact rsz_add (h1 i) (rsz_cut h2 i)
theorem rsz_wt {q n : Nat} {xs : Nat → Nat} (hq : 2 ≤ q) (hq2 : q ≤ 256) (hn : n ≤ 64) (hx : ∀ k, k ≤ n → dl (xs k) ≤ 8) : ∀ k, k ≤ n + 1 → ∀ i, rsz (cl2 (wtP q n xs k) i) (1 + k * 501) := by
 intro k
 induction k with
 | zero => intro _ i; show rsz (cutR _ 0 i) _; unfold cutR; rw [if_neg (by omega)]; exact rsz_zero
 | succ k ih =>
  intro hk i
  show rsz (cl2 (if xs k = 0 then _ else _) i) _
  split
  ·exact (ih (by omega) i).mono (by omega)
  ·exact (rsz_ad (ih (by omega)) (rsz_tm hq hq2 hn (by omega) (hx k (by omega))) i).mono (by omega)
theorem wtP_len (q n : Nat) (xs : Nat → Nat) (k : Nat) : (wtP q n xs k).1 ≤ n + 2 := by
 induction k with
 | zero => exact Nat.zero_le _
 | succ k ih =>
  show (if xs k = 0 then _ else _ : Nat × (Nat → Rat)).1 ≤ _
  split
  ·exact ih
  ·have h1 : (tmP q n (xs k) k).1 ≤ n + 2 := by have := clen_le (mulP (fun _ => ((xs k : Nat) : Rat)) 1 (patR q n k) (n + 1)) (1 + (n + 1)); show clen _ _ ≤ _; omega
   refine Nat.le_trans (clen_le _ _) ?_
   omega
theorem ratTab_one {w : World} (T : TypeId) {s : Bool} {A A2 : Option Addr} {n c k c2 N : Nat} {r : Rat} {rs : Nat → Rat} (hr : rs 0 = r)
  (h : RatRaw w w.heap.size (.agg #[.bool s, .slice A n c, .slice A2 k c2]) r N) :
  RatTab (w.alloc (.cells #[.bool s, .slice A n c, .slice A2 k c2] T)) (w.alloc (.cells #[.bool s, .slice A n c, .slice A2 k c2] T)).heap.size (some ⟨w.heap.size, 0, none⟩) 1 rs N := fun i hi => by
 obtain rfl : i = 0 := by omega
 subst hr
 have hb := below_one w (.cells #[.bool s, .slice A n c, .slice A2 k c2] T)
 have hg := heap_alloc_new w (.cells #[.bool s, .slice A n c, .slice A2 k c2] T)
 exact ⟨w.heap.size, 0, s, A, n, c, A2, k, c2, rfl, by simp, by rw [cell_of_row _ _ _ _ T (0, 0) hg]; rfl, by rw [cell_of_row _ _ _ _ T (0, 0) hg]; rfl, by rw [cell_of_row _ _ _ _ T (0, 0) hg]; rfl, h.on hb⟩
set_option maxRecDepth 100000 in
set_option maxHeartbeats 8000000 in
theorem weighted_any (q n : Nat) (T : Option Addr) (M c : Nat) (xs : Nat → Nat) (w : World) (h : NatRTab w w.heap.size T M xs 8) (hq : 2 ≤ q) (hq2 : q ≤ 256) (hn : n ≤ 64) (hM : M = n + 1) :
  Calls Tryz.prog 45 #[.int .i64 (q : Nat), .slice T M c] w (PolyPost (wtP q n xs (n + 1)).1 (wtP q n xs (n + 1)).2 w) := by
 have hdx : Hid (∀ k, k ≤ n → dl (xs k) ≤ 8) := fun k hk => by
  obtain ⟨b, off, A, l, d, _, _, _, h3, _, _, h5⟩ := h k (by omega)
  have := h3.dl
  omega
 have hRS : Hid (∀ k, k ≤ n + 1 → ∀ i, rsz (cl2 (wtP q n xs k) i) (1 + k * 501)) := rsz_wt hq hq2 hn hdx.out
 have hMi : (M : Int) - 1 = (n : Int) := by omega
 rw [← hM]
 have hM1 : M ≤ n + 1 := by omega
 have hM2 : n + 1 ≤ M := by omega
 have HM := hid hM
 clear hM
 go_enter Tryz.func45, Tryz.ntmps45
 go_wp2
 go_loopg [5, 10] M (fun gg ov iv wx => ∃ k : Nat, ∃ A d, iv = .int .i64 (k : Nat) ∧ k ≤ M ∧ M ≤ k + gg ∧ ov = .slice A (wtP q n xs k).1 d ∧ (wtP q n xs k).1 ≤ d ∧ d ≤ maxLen ∧ RatList wx wx.heap.size A (wtP q n xs k).1 (wtP q n xs k).2 ∧ Below w.heap.size w wx)
 case atStart => exact ⟨0, none, 0, rfl, by omega, by omega, rfl, Nat.le_refl 0, by unfold maxLen; omega, fun i hi => absurd hi (Nat.not_lt_zero i), Below.refl _ _⟩
 case round =>
  obtain ⟨k, A, d, rfl, hk, hkg, rfl, hd1, hd2, hl, hB⟩ := hrel
  have hk0 : (0 : Int) ≤ (k : Int) := by omega
  have hLk := wtP_len q n xs k
  have ht := hl.tab (rsz_cl2 (hRS.out k (by omega)))
  have hrk := rsz_cl2 (hRS.out k (by omega))
  by_cases hlt : k < M
  ·have hlt' : (k : Int) < (M : Int) := by omega
   obtain ⟨b, off, A1, l1, d1, rfl, hb, t0, hx0, g1, g2, g3⟩ := h k hlt
   have t1 := cellS hB t0
   have hx := hx0.on hB
   by_cases hx0' : xs k = 0
   ·have hnx : Hid (wtP q n xs (k + 1) = wtP q n xs k) := by show (if xs k = 0 then _ else _) = _; rw [if_pos hx0']
    rw [hx0'] at hx
    have hnl : nlen 0 = 0 := nlen_zero
    obtain ⟨L, hL⟩ : ∃ L, L = (wtP q n xs k).1 := ⟨_, rfl⟩
    rw [← hL]
    have HL := hid hL
    clear ht hrk hL hx0' hx0
    go_wp2_with fail
    refine (natBits_raw A1 l1 d1 0 _ hx g1 g2 (by omega)).mono ?_
    rintro e w1 ⟨rfl, rfl⟩
    rw [hnl]
    clear hnl t1 t0
    go_wp2
    go_roundg (gk - 1)
    case measure => omega
    case rel => exact ⟨k + 1, A, d, by go_num, by omega, by omega, by rw [hnx.out, HL.out], by rw [hnx.out]; exact hd1, hd2, by rw [hnx.out]; exact hl, hB⟩
   ·have hxp : 0 < nlen (xs k) := Nat.pos_of_ne_zero fun e => hx0' (nlen_eq_zero.1 e)
    have hxp' : (0 : Int) < ((nlen (xs k) : Nat) : Int) := by omega
    have hpo : Hid (∀ (W : World) (e : Ending) (W' : World), PolyPost (clen (sumP (wtP q n xs k).2 (wtP q n xs k).1 (tmP q n (xs k) k).2 (tmP q n (xs k) k).1) (max (wtP q n xs k).1 (tmP q n (xs k) k).1)) (sumP (wtP q n xs k).2 (wtP q n xs k).1 (tmP q n (xs k) k).2 (tmP q n (xs k) k).1) W e W' → PolyPost (wtP q n xs (k + 1)).1 (wtP q n xs (k + 1)).2 W e W') := fun _ _ _ h => by
     have e : wtP q n xs (k + 1) = adP (wtP q n xs k) (tmP q n (xs k) k) := by show (if xs k = 0 then _ else _) = _; rw [if_neg hx0']
     rw [e]; exact h
    have hmu : Hid (∀ (W : World) (e : Ending) (W' : World), PolyPost (clen (mulP (fun _ => ((xs k : Nat) : Rat)) 1 (patR q n k) (n + 1)) (1 + (n + 1))) (mulP (fun _ => ((xs k : Nat) : Rat)) 1 (patR q n k) (n + 1)) W e W' → PolyPost (tmP q n (xs k) k).1 (tmP q n (xs k) k).2 W e W') := fun _ _ _ h => h
    have htm : Hid (∀ i, i < (tmP q n (xs k) k).1 → rsz ((tmP q n (xs k) k).2 i) 33000) := fun i _ => (rsz_tm hq hq2 hn (by omega) (hdx.out k (by omega)) i).mono (by omega)
    have htl : (tmP q n (xs k) k).1 ≤ n + 2 := by have := clen_le (mulP (fun _ => ((xs k : Nat) : Rat)) 1 (patR q n k) (n + 1)) (1 + (n + 1)); show clen _ _ ≤ _; omega
    have hdx1 := hdx.out k (by omega)
    have hpat : Hid (∀ i, i < n + 1 → rsz (patR q n k i) 200) := fun i _ => rsz_pat hq hq2 hn (by omega) i
    have hrk' : Hid (∀ i, i < (wtP q n xs k).1 → rsz ((wtP q n xs k).2 i) 33000) := fun i hi => (hrk i hi).mono (by omega)
    have ht' := ht.mono (show 1 + k * 501 ≤ 33000 by omega)
    obtain ⟨L, hL⟩ : ∃ L, L = (wtP q n xs k).1 := ⟨_, rfl⟩
    obtain ⟨S, hS⟩ : ∃ S, S = (wtP q n xs k).2 := ⟨_, rfl⟩
    obtain ⟨tl, hTL⟩ : ∃ L, L = (tmP q n (xs k) k).1 := ⟨_, rfl⟩
    obtain ⟨ts, hTS⟩ : ∃ S, S = (tmP q n (xs k) k).2 := ⟨_, rfl⟩
    rw [← hL] at hLk hd1
    rw [← hL, ← hS] at ht' hrk' hpo
    rw [← hTL, ← hTS] at hpo hmu htm
    rw [← hTL] at htl
    rw [← hL]
    clear hl ht hrk hL hS hTL hTS hx0'
    obtain ⟨x, hxe⟩ : ∃ x, x = xs k := ⟨_, rfl⟩
    rw [← hxe] at hx hmu hdx1 hxp hxp'
    clear hxe hx0
    obtain ⟨P, hP⟩ : ∃ P, P = n + 1 := ⟨_, rfl⟩
    have hpp : Hid (∀ (W : World) (e : Ending) (W' : World), PolyPost (n + 1) (patR q n k) W e W' → PolyPost P (patR q n k) W e W') := fun _ _ _ h => by rw [hP]; exact h
    rw [← hP] at hmu hpat
    have hP65 : P ≤ 65 := by omega
    clear hP
    have hc1 : Hid (∀ i, i < 1 → rsz ((fun _ => (x : Rat)) i : Rat) 200) := fun i _ => rsz_nat (by omega) (by omega)
    go_wp2_with fail
    refine (natBits_raw A1 l1 d1 x _ hx g1 g2 (by omega)).mono ?_
    rintro e w1 ⟨rfl, hw1⟩
    rw [← hw1]
    clear hw1 t0
    have o1 := natOk_one (w := wr) 89 (x := 1) (by omega) (by omega)
    have kb := below_one wr (.cells #[.int .u32 1] 89)
    replace hx := hx.on kb
    replace ht' := ht'.on kb
    replace hB := onS hB kb
    have hd1' := dl_one
    have hraw : RatRaw _ _ (.agg #[.bool false, .slice A1 l1 d1, .slice (some ⟨wr.heap.size, 0, none⟩) 1 1]) (x : Rat) 200 := ⟨false, A1, l1, d1, some ⟨wr.heap.size, 0, none⟩, 1, 1, x, 1, rfl, hx, by have := o1.raw; rw [hd1'] at this; exact this, g1, g2, by omega, by unfold maxLen; omega, by omega, by omega, by rw [rv_one]; rfl⟩
    have tb := ratTab_one 31 (rs := fun _ => (x : Rat)) rfl hraw
    have esz : (wr.alloc (.cells #[.int .u32 1] 89)).heap.size = wr.heap.size + 1 := by simp
    rw [esz] at tb
    clear esz
    have kb2 := below_one (wr.alloc (.cells #[.int .u32 1] 89)) (.cells #[.bool false, .slice A1 l1 d1, .slice (some ⟨wr.heap.size, 0, none⟩) 1 1] 31)
    replace ht' := ht'.on kb2
    replace hB := onS hB kb2
    clear kb kb2 o1 hraw hx hd1'
    go_wp2_with fail
    obtain ⟨wz, hwz⟩ : ∃ W, W = (wr.alloc (.cells #[.int .u32 1] 89)).alloc (.cells #[.bool false, .slice A1 l1 d1, .slice (some ⟨wr.heap.size, 0, none⟩) 1 1] 31) := ⟨_, rfl⟩
    obtain ⟨gz, hgz⟩ : ∃ g, g = wr.heap.size + 1 := ⟨_, rfl⟩
    rw [← hwz] at tb ht' hB ⊢
    rw [← hgz] at tb ⊢
    clear hwz hgz
    refine ((chPattern_any q n k _ hq hq2 hn (by omega)).mono (fun e W' => hpp.out _ e W')).mono ?_
    rintro e w2 ⟨Ta, ca, rfl, p1, p2, l3, kb⟩
    replace ht' := ht'.on kb
    replace tb := tb.on kb
    replace hB := onS hB kb
    have t2 := l3.tab hpat.out
    clear kb l3 t1
    go_wp2_with fail
    refine ((chPMul_any _ Ta 1 1 P ca 200 401 (fun _ => (x : Rat)) (patR q n k) _ tb t2 (by omega) (by omega) (by omega) (by omega) hc1 hpat).mono (fun e W' => hmu.out _ e W')).mono ?_
    rintro e w3 ⟨Tb, cb, rfl, q1, q2, l4, kb⟩
    replace ht' := ht'.on kb
    replace hB := onS hB kb
    have t3 := l4.tab htm.out
    clear kb tb t2 l4
    go_wp2_with fail
    refine ((chPAdd_any A Tb L d tl cb 33000 S ts _ ht' t3 (by omega) (by omega) (by omega) hrk' htm).mono (fun e W' => hpo.out _ e W')).mono ?_
    rintro e w4 ⟨Tc, cc, rfl, s1, s2, l5, kb⟩
    replace hB := onS hB kb
    obtain ⟨L', hL'⟩ : ∃ L, L = (wtP q n xs (k + 1)).1 := ⟨_, rfl⟩
    rw [← hL'] at s1 l5 ⊢
    have HL := hid hL'
    clear kb t3 ht' hL'
    go_wp2
    go_roundg (gk - 1)
    case measure => omega
    case rel => exact ⟨k + 1, Tc, cc, by go_num, by omega, by omega, by rw [HL.out], by rw [HL.out] at s1; exact s1, s2, by rw [HL.out] at l5; exact l5, hB⟩
  ·obtain rfl : k = M := by omega
   have hlt' : ¬ (k : Int) < (k : Int) := by omega
   obtain ⟨L, hL⟩ : ∃ L, L = (wtP q n xs k).1 := ⟨_, rfl⟩
   rw [← hL] at hd1 hl ⊢
   have HL := hid hL
   clear hL ht hrk hlt
   go_wp2
   go_ret
   rw [← HL.out]
   exact ⟨_, _, rfl, hd1, hd2, hl, hB⟩
section
variable {P : Program} (w : World)
/-- append onto a slice of one element without room: m > 0 more. -/
theorem run_append_cons (t ty e : TypeId) (i : TypeInfo) (z : Value) (bytes : Nat) (ht : P.underlying t = some (.slice e)) (hi : P.info? e = some i) (hz : i.zero = some z)
  (hsize : i.size = 1) (hby : i.bytes = bytes) (g : Nat) (u : Value) (hu : w.cell? ⟨g, 0, none⟩ = some u)
  (A : Option Addr) (m c : Nat) (f : Nat → Value) (hsrc : Rd w w.heap.size A m 1 (fun i _ => f i)) (hm : 0 < m) (h1 : ∀ k, k < m → (f k).oneCell' = true)
  (h63 : 1 + m ≤ maxLen) (hbytes : (1 + m) * bytes ≤ 140737488355328) :
  ∃ cap cur, (Builtin.append_ #[t, t] ty #[.slice (some ⟨g, 0, none⟩) 1 1, .slice A m c]).run P w = .ok (.slice (some ⟨w.heap.size, 0, none⟩) (1 + m) cap) (w.drew.alloc (.cells cur e)) ∧
   1 + m ≤ cap ∧ cap ≤ maxLen ∧ cur[0]? = some u ∧ ∀ k, k < m → cur[k + 1]? = some (f k) := by
 subst hby
 obtain ⟨b, off, rfl, hb, _⟩ := hsrc 0 hm
 have add_lit' : ∀ (b o j : Nat), (⟨b, o, none⟩ : Addr).add j = ⟨b, o + j, none⟩ := fun b o j => by unfold Addr.add; split <;> simp_all
 have hcell : ∀ j v, ((List.range m).map f)[j]? = some v → w.cell? ((⟨b, off, none⟩ : Addr).add j) = some v := fun j v hv => by
  have hj : j < m := by have := (List.getElem?_eq_some_iff.1 hv).1; simpa using this
  obtain ⟨b', off', e', _, hc⟩ := hsrc j hj
  injection e' with e'
  injection e' with e' e''
  subst e' e''
  rw [add_lit']
  have := hc 0 (by omega)
  simp at this
  rw [this]
  simp [hj] at hv
  rw [hv]
 have hsr := Src.ofSlice (P := P) w (size := i.size) (e' := e) ht ⟨b, off, none⟩ m c ((List.range m).map f) (by rw [hsize]; simp) hcell (fun u hu => by
  obtain ⟨j, hj, rfl⟩ := List.mem_map.1 hu
  exact h1 _ (List.mem_range.1 hj))
 have hold : (Builtin.firstCells i.size 1 (.slice (some ⟨g, 0, none⟩) 1 1)).run P w.drew = .ok [u].toArray w.drew := by
  refine run_firstCells_some (P := P) w.drew i.size 1 ⟨g, 0, none⟩ 1 1 [u] (by rw [hsize]; rfl) fun j v hv => ?_
  have hj : j < 1 := by have := (List.getElem?_eq_some_iff.1 hv).1; simpa using this
  obtain rfl : j = 0 := by omega
  simp at hv
  subst hv
  rw [add_lit']
  exact hu
 have hrun := run_append_grow_src (P := P) w t t ty e i z ht hi hz (some ⟨g, 0, none⟩) 1 1 [u] hold (.slice (some ⟨b, off, none⟩) m c) m ((List.range m).map f) hsr (by omega) (by simp only [maxLen] at h63; omega) (growslice_fits (by omega) hbytes)
 refine ⟨_, _, hrun, grownCap_ge w (1 + m) 1 e, grownCap_le_maxLen w (1 + m) 1 e h63, ?_, fun k hk => ?_⟩
 ·rw [Array.getElem?_append_left (by simp)]; rfl
 ·rw [Array.getElem?_append_left (by simp; omega), List.getElem?_toArray]
  show ((List.range m).map f)[k]? = _
  simp [hk]
theorem run_append_cons_none (t ty e : TypeId) (i : TypeInfo) (ht : P.underlying t = some (.slice e)) (hi : P.info? e = some i) (g : Nat) (A : Option Addr) (c : Nat) :
  (Builtin.append_ #[t, t] ty #[.slice (some ⟨g, 0, none⟩) 1 1, .slice A 0 c]).run P w = .ok (.slice (some ⟨g, 0, none⟩) 1 1) w := by
 have hs : Src P i.size t (.slice A 0 c) 0 [] w := by
  cases A with
  | none => exact Src.ofNil w ht c
  | some a => exact Src.ofSlice w (e' := e) ht a 0 c [] (by simp) (fun j u h => by simp at h) (fun u h => by cases h)
 have h := run_append_room_src (P := P) w t t ty e i ht hi g 0 1 1 (.slice A 0 c) 0 [] hs (Nat.le_refl _) (fun j hj => by simp at hj) (fun j hj => by simp at hj)
 rw [h]
 rfl
end
theorem Tryz.infoNatS : (Tryz.prog.info? 29).map (fun i => (i.zero, i.size, i.bytes)) = some (some (.slice none 0 0), 1, 24) := by kernel_rfl
theorem wpList_append_nats {w : World} {ops : Array Oper} {rest : List Oper} {o : Oper} {a : Act} {Q : Exit → Act → World → Prop} (hgd : o.guard = none) (sl x : Operand)
  (ho : o.op = .call { callee := .builtin .append, args := #[sl, x], argTypes := #[43, 43] })
  (g : Nat) (hv : a.eval sl = .slice (some ⟨g, 0, none⟩) 1 1) (hu : w.cell? ⟨g, 0, none⟩ = some (.slice none 0 0))
  (A : Option Addr) (m c : Nat) (hx : a.eval x = .slice A m c) (f : Nat → Value) (hsrc : Rd w w.heap.size A m 1 (fun i _ => f i)) (hm : 0 < m) (h1 : ∀ k, k < m → (f k).oneCell' = true) (h63 : m ≤ 1048576)
  (hK : ∀ cap cur, 1 + m ≤ cap → cap ≤ maxLen → cur[0]? = some (.slice none 0 0) → (∀ k, k < m → cur[k + 1]? = some (f k)) → wpList Tryz.prog ops Q rest (a.put o.dst (.slice (some ⟨w.heap.size, 0, none⟩) (1 + m) cap)) (w.drew.alloc (.cells cur 29))) : wpList Tryz.prog ops Q (o :: rest) a w := by
 refine wpList_plain hgd fun K hK' => ?_
 obtain ⟨i, hi, hzz⟩ := Option.map_eq_some_iff.1 Tryz.infoNatS
 simp only [Prod.mk.injEq] at hzz
 obtain ⟨hz, hs, hb⟩ := hzz
 obtain ⟨cap, cur, hrun, h2, h3, h4, h5⟩ := run_append_cons (P := Tryz.prog) w 43 o.type 29 i _ 24 Tryz.underlying43 hi hz hs hb g _ hu A m c f hsrc hm h1 (by unfold maxLen; omega) (by omega)
 unfold Oper.wp execOp
 simp only [ho, resolve, invoke, builtin, Sem.run_bind, Sem.run_pure, Result.andThen_ok, List.map_toArray, List.map_cons, List.map_nil, hv, hx, hrun]
 exact hK' _ _ (hK cap cur h2 h3 h4 h5)
theorem wpList_append_nats0 {w : World} {ops : Array Oper} {rest : List Oper} {o : Oper} {a : Act} {Q : Exit → Act → World → Prop} (hgd : o.guard = none) (sl x : Operand)
  (ho : o.op = .call { callee := .builtin .append, args := #[sl, x], argTypes := #[43, 43] })
  (g : Nat) (hv : a.eval sl = .slice (some ⟨g, 0, none⟩) 1 1) (A : Option Addr) (c : Nat) (hx : a.eval x = .slice A 0 c)
  (hK : wpList Tryz.prog ops Q rest (a.put o.dst (.slice (some ⟨g, 0, none⟩) 1 1)) w) : wpList Tryz.prog ops Q (o :: rest) a w := by
 refine wpList_plain hgd fun K hK' => ?_
 obtain ⟨i, hi, hzz⟩ := Option.map_eq_some_iff.1 Tryz.infoNatS
 have hrun := run_append_cons_none (P := Tryz.prog) w 43 o.type 29 i Tryz.underlying43 hi g A c
 unfold Oper.wp execOp
 simp only [ho, resolve, invoke, builtin, Sem.run_bind, Sem.run_pure, Result.andThen_ok, List.map_toArray, List.map_cons, List.map_nil, hv, hx, hrun]
 exact hK' _ _ hK
/-- The list with 0 for its first. -/
def zer (xs : Nat → Nat) (i : Nat) : Nat := if i = 0 then 0 else xs i
theorem natRaw_nil (w : World) (B : Nat) : NatRaw w B none 0 0 := ⟨fun _ => 0, fun i hi => by omega, fun i hi => by omega, rfl⟩
set_option maxRecDepth 100000 in
set_option maxHeartbeats 4000000 in
theorem undet_ok (q n : Nat) (T : Option Addr) (M c : Nat) (xs : Nat → Nat) (w : World) (h : NatRTab w w.heap.size T M xs 8) (hq : 2 ≤ q) (hq2 : q ≤ 256) (hn : n ≤ 64) (hM : M = n + 1) (hMc : M ≤ c) (hcm : c ≤ maxLen) :
  Calls Tryz.prog 14 #[.int .i64 (q : Nat), .slice T M c] w (PolyOk (wtP q n (zer xs) (n + 1)).1 (wtP q n (zer xs) (n + 1)).2 w) := by
 have hpo : Hid (∀ (W : World) (e : Ending) (W' : World), PolyPost (wtP q n (zer xs) (n + 1)).1 (wtP q n (zer xs) (n + 1)).2 W e W' → PolyPost (wtP q n (zer xs) (n + 1)).1 (wtP q n (zer xs) (n + 1)).2 W e W') := fun _ _ _ h => h
 obtain ⟨L, hL⟩ : ∃ L, L = (wtP q n (zer xs) (n + 1)).1 := ⟨_, rfl⟩
 obtain ⟨S, hS⟩ : ∃ S, S = (wtP q n (zer xs) (n + 1)).2 := ⟨_, rfl⟩
 have hpo : Hid (∀ (W : World) (e : Ending) (W' : World), PolyPost (wtP q n (zer xs) (n + 1)).1 (wtP q n (zer xs) (n + 1)).2 W e W' → PolyPost L S W e W') := fun _ _ _ h => by rw [hL, hS]; exact h
 rw [← hL, ← hS]
 clear hL hS
 have hq1 : (2 : Int) ≤ (q : Int) := by omega
 have hq3 : (q : Int) ≤ 256 := by omega
 have hM1 : (1 : Int) ≤ (M : Int) := by omega
 have hM2 : (M : Int) ≤ 65 := by omega
 have hMc' : (M : Int) ≤ (c : Int) := by omega
 have hc1 : (1 : Int) ≤ (c : Int) := by omega
 obtain ⟨b, off, A1, l1, d1, rfl, hb, _⟩ := h 0 (by omega)
 have HMM := hid hM
 have hsrc : Hid (∀ i, i < n → ∃ A l d, w.cell? ⟨b, off + 1 + i, none⟩ = some (.slice A l d) ∧ NatRaw w w.heap.size A l (xs (i + 1)) ∧ l ≤ d ∧ d ≤ maxLen ∧ l ≤ 8) := fun i hi => by
  obtain ⟨b', off', A, l, d, e, _, h2, h3, h4, h5, h6⟩ := h (i + 1) (by omega)
  injection e with e
  injection e with e1 e2
  subst e1 e2
  exact ⟨A, l, d, by rw [show off + 1 + i = off + (i + 1) by omega]; exact h2, h3, h4, h5, h6⟩
 clear h
 have kb0 := below_one w (.cells #[.slice none 0 0] 29)
 by_cases hn0 : n = 0
 ·subst hn0
  obtain rfl : M = 1 := by omega
  have htab : NatRTab (w.alloc (.cells #[.slice none 0 0] 29)) (w.alloc (.cells #[.slice none 0 0] 29)).heap.size (some ⟨w.heap.size, 0, none⟩) 1 (zer xs) 8 := fun i hi => by
   obtain rfl : i = 0 := by omega
   exact ⟨w.heap.size, 0, none, 0, 0, rfl, by simp, by simp, natRaw_nil _ _, Nat.le_refl _, by unfold maxLen; omega, by omega⟩
  clear hM HMM hsrc
  by_cases hcc : c = 1
  ·subst hcc
   go_enter Tryz.func14, Tryz.ntmps14
   go_wp2_with (first | (at_builtin; (refine wpList_append_nats0 rfl (.tmp 21) (.tmp 23) rfl w.heap.size rfl _ _ rfl ?_)))
   refine ((weighted_any q 0 (some ⟨w.heap.size, 0, none⟩) 1 1 (zer xs) _ htab hq hq2 hn rfl).mono (fun e W' => hpo.out _ e W')).mono ?_
   rintro e w1 ⟨Ta, ca, rfl, p1, p2, p3, kb⟩
   replace kb0 := onS kb0 kb
   clear kb
   go_wp2
   go_ret2
   exact ⟨_, _, rfl, p1, p2, p3, kb0⟩
  ·have hc2 : (1 : Int) < (c : Int) := by omega
   have hc3 : ¬ (c : Int) = 1 := by omega
   go_enter Tryz.func14, Tryz.ntmps14
   go_wp2_with (first | (at_builtin; (refine wpList_append_nats0 rfl (.tmp 21) (.tmp 23) rfl w.heap.size rfl _ _ rfl ?_)))
   refine ((weighted_any q 0 (some ⟨w.heap.size, 0, none⟩) 1 1 (zer xs) _ htab hq hq2 hn rfl).mono (fun e W' => hpo.out _ e W')).mono ?_
   rintro e w1 ⟨Ta, ca, rfl, p1, p2, p3, kb⟩
   replace kb0 := onS kb0 kb
   clear kb
   go_wp2
   go_ret2
   exact ⟨_, _, rfl, p1, p2, p3, kb0⟩
 ·have hc2 : (1 : Int) < (c : Int) := by omega
  have hc3 : ¬ (c : Int) = 1 := by omega
  have hcn : ¬ c = 1 := by omega
  have hMn : M - 1 = n := by omega
  have hMi : (M : Int) - 1 = ((n : Nat) : Int) := by omega
  have hval : ∀ i, ∃ v : Value, i < n → (w.cell? ⟨b, off + 1 + i, none⟩ = some v ∧ v.oneCell' = true ∧ ∃ A l d, v = .slice A l d ∧ NatRaw w w.heap.size A l (xs (i + 1)) ∧ l ≤ d ∧ d ≤ maxLen ∧ l ≤ 8) := fun i => by
   by_cases hi : i < n
   ·obtain ⟨A, l, d, h1, h2⟩ := hsrc.out i hi
    exact ⟨.slice A l d, fun _ => ⟨h1, rfl, A, l, d, rfl, h2⟩⟩
   ·exact ⟨undef, fun h => absurd h hi⟩
  obtain ⟨f, hf⟩ := Classical.axiomOfChoice hval
  have hrd : Rd (w.alloc (.cells #[.slice none 0 0] 29)) (w.alloc (.cells #[.slice none 0 0] 29)).heap.size (some ⟨b, off + 1, none⟩) n 1 (fun i _ => f i) := fun i hi => by
   refine ⟨b, off + 1, rfl, by simp; omega, fun j hj => ?_⟩
   obtain rfl : j = 0 := by omega
   have := cellS kb0 (hf i hi).1
   simpa using this
  have hcell0 : (w.alloc (.cells #[.slice none 0 0] 29)).cell? ⟨w.heap.size, 0, none⟩ = some (.slice none 0 0) := by simp
  have HF := hid hf
  have HRD := hid hrd
  have H0 := hid hcell0
  clear hf hval hrd hcell0 hsrc hM
  go_enter Tryz.func14, Tryz.ntmps14
  go_wp2_with (first | (at_builtin; (refine wpList_append_nats rfl (.tmp 21) (.tmp 23) rfl w.heap.size rfl H0.out (some ⟨b, off + 1, none⟩) n (c - 1) rfl f HRD.out (by omega) (fun k hk => (HF.out k hk).2.1) (by omega) ?_); intro cap cur k1 k2 k3 k4))
  obtain ⟨wz, hwz⟩ : ∃ W, W = ((w.alloc (.cells #[.slice none 0 0] 29)).alloc (.cells cur 29)).drew := ⟨_, rfl⟩
  have kb1 : Below w.heap.size w wz := by
   rw [hwz]
   exact (onS kb0 (below_one _ (.cells cur 29))).drew
  have hblk : wz.heap[w.heap.size + 1]? = some (.cells cur 29 (0, 0)) := by
   rw [hwz]
   have := heap_alloc_new (w.alloc (.cells #[.slice none 0 0] 29)) (.cells cur 29)
   rw [show (w.alloc (.cells #[.slice none 0 0] 29)).heap.size = w.heap.size + 1 by simp] at this
   exact this
  have hlt : w.heap.size + 1 < wz.heap.size := (Array.getElem?_eq_some_iff.1 hblk).1
  have htab : NatRTab wz wz.heap.size (some ⟨w.heap.size + 1, 0, none⟩) (1 + n) (zer xs) 8 := fun i hi => by
   by_cases h0 : i = 0
   ·subst h0
    exact ⟨w.heap.size + 1, 0, none, 0, 0, rfl, hlt, by rw [cell_of_row _ _ _ _ _ _ hblk]; exact k3, natRaw_nil _ _, Nat.le_refl _, by unfold maxLen; omega, by omega⟩
   ·obtain ⟨_, _, A, l, d, e, g1, g2, g3, g4⟩ := HF.out (i - 1) (by omega)
    refine ⟨w.heap.size + 1, 0, A, l, d, rfl, hlt, ?_, ?_, g2, g3, g4⟩
    ·rw [cell_of_row _ _ _ _ _ _ hblk, Nat.zero_add]
     have := k4 (i - 1) (by omega)
     rw [show i - 1 + 1 = i by omega, e] at this
     exact this
    ·have := g1.on kb1
     rw [show i - 1 + 1 = i by omega] at this
     unfold zer
     rw [if_neg h0]
     exact this
  rw [← hwz]
  obtain ⟨gz, hgz⟩ : ∃ g, g = w.heap.size + 1 := ⟨_, rfl⟩
  rw [← hgz] at htab ⊢
  clear hwz hgz hblk hlt k3 k4 HF HRD H0 kb0
  refine ((weighted_any q n (some ⟨gz, 0, none⟩) (1 + n) cap (zer xs) _ htab hq hq2 hn (Nat.add_comm _ _)).mono (fun e W' => hpo.out _ e W')).mono ?_
  rintro e w1 ⟨Ta, ca, rfl, p1, p2, p3, kb⟩
  have hB := onS kb1 kb
  clear kb htab kb1
  go_wp2
  go_ret2
  exact ⟨_, _, rfl, p1, p2, p3, hB⟩
theorem nodup_le {α : Type} : ∀ {l m : List α}, l.Nodup → (∀ x, x ∈ l → x ∈ m) → l.length ≤ m.length := by
 classical
 intro l
 induction l with
 | nil => intro m _ _; exact Nat.zero_le _
 | cons a l ih =>
  intro m h1 h2
  have ha := h2 a (by simp)
  rw [List.nodup_cons] at h1
  have hl := List.length_erase_of_mem ha
  have hp := ih (m := m.erase a) h1.2 fun x hx => (List.mem_erase_of_ne (fun e : x = a => h1.1 (by rw [← e]; exact hx))).2 (h2 x (by simp [hx]))
  have hpos := List.length_pos_of_mem ha
  simp only [List.length_cons]
  omega
theorem nodup_map_inj {α β : Type} {f : α → β} : ∀ {l : List α}, l.Nodup → (∀ a, a ∈ l → ∀ b, b ∈ l → f a = f b → a = b) → (l.map f).Nodup := by
 intro l
 induction l with
 | nil => intro _ _; exact List.nodup_nil
 | cons a l ih =>
  intro h hi
  rw [List.nodup_cons] at h
  rw [List.map_cons, List.nodup_cons]
  refine ⟨fun hm => ?_, ih h.2 fun x hx y hy e => hi x (by simp [hx]) y (by simp [hy]) e⟩
  obtain ⟨b, hb, e⟩ := List.mem_map.1 hm
  have := hi b (by simp [hb]) a (by simp) e
  exact h.1 (by rw [← this]; exact hb)
theorem allW_nodup {K : Type} {L : List K} (hn : L.Nodup) : ∀ n, (allW L n).Nodup
 | 0 => by simp [allW]
 | n + 1 => by
  have ih := allW_nodup hn n
  show ((allW L n).flatMap fun w => L.map fun a => a :: w).Nodup
  revert ih
  generalize allW L n = l
  induction l with
  | nil => intro _; simp
  | cons w l ihl =>
   intro h
   rw [List.nodup_cons] at h
   rw [List.flatMap_cons, List.nodup_append]
   refine ⟨nodup_map_inj hn fun a _ b _ e => by injection e, ihl h.2, fun x hx y hy e => ?_⟩
   obtain ⟨a, _, rfl⟩ := List.mem_map.1 hx
   obtain ⟨w', hw', hy⟩ := List.mem_flatMap.1 hy
   obtain ⟨b, _, rfl⟩ := List.mem_map.1 hy
   injection e with _ e
   exact h.1 (by rw [e]; exact hw')
theorem allW_mem {K : Type} {L : List K} (hc : ∀ a, a ∈ L) : ∀ n (x : List K), x.length = n → x ∈ allW L n
 | 0, x, h => by rw [List.length_eq_zero_iff.1 h]; simp [allW]
 | n + 1, [], h => by simp at h
 | n + 1, a :: x, h => by
  show _ ∈ (allW L n).flatMap _
  exact List.mem_flatMap.2 ⟨x, allW_mem hc n x (by simpa using h), List.mem_map.2 ⟨a, hc a, rfl⟩⟩
open Classical in
theorem sumM_filter {α : Type} (C : α → Prop) (g : α → Rat) : ∀ l : List α, sumM (fun x => if C x then g x else 0) l = sumM g (l.filter fun x => decide (C x))
 | [] => rfl
 | a :: l => by
  have ih := sumM_filter C g l
  show (if C a then g a else 0) + sumM _ l = _
  rw [ih]
  by_cases h : C a
  ·rw [if_pos h, List.filter_cons_of_pos (by simpa using h)]
   rfl
  ·rw [if_neg h, List.filter_cons_of_neg (by simpa using h)]
   grind
open Classical in
/-- A sum over a code is the sum over a list of its words. -/
theorem sum_code {K : Type} {L : List K} (hn : L.Nodup) (hc : ∀ a, a ∈ L) {N m : Nat} {C : List K → Prop} {W : Nat → List K} (hlen : ∀ i, i < m → (W i).length = N) (hC : ∀ i, i < m → C (W i)) (hinj : ∀ i j, i < m → j < m → W i = W j → i = j) (hsur : ∀ x, x.length = N → C x → ∃ i, i < m ∧ W i = x) (g : List K → Rat) :
  sumM (fun x => if C x then g x else 0) (allW L N) = sumM (fun i => g (W i)) (List.range m) := by
 rw [sumM_filter]
 have h1 : ((List.range m).map W).Nodup := nodup_map_inj List.nodup_range fun a ha b hb e => hinj a b (List.mem_range.1 ha) (List.mem_range.1 hb) e
 have h2 : ∀ x, x ∈ (List.range m).map W → x ∈ (allW L N).filter fun x => decide (C x) := fun x hx => by
  obtain ⟨i, hi, rfl⟩ := List.mem_map.1 hx
  rw [List.mem_range] at hi
  exact List.mem_filter.2 ⟨allW_mem hc N _ (hlen i hi), by simpa using hC i hi⟩
 have h3 : ∀ x, x ∈ (allW L N).filter (fun x => decide (C x)) → x ∈ (List.range m).map W := fun x hx => by
  obtain ⟨h4, h5⟩ := List.mem_filter.1 hx
  obtain ⟨i, hi, e⟩ := hsur x (allW_len L N x h4) (by simpa using h5)
  exact List.mem_map.2 ⟨i, List.mem_range.2 hi, e⟩
 have h6 : ((allW L N).filter fun x => decide (C x)).Nodup := (allW_nodup hn N).filter _
 rw [← sumM_perm (perm_of_nodup' h1 h2 (nodup_le h6 h3)), sumM_map]
theorem dig_sum {q : Nat} (hq : 0 < q) {n x y : Nat} (hx : x < q ^ n) (hy : y < q ^ n) (h : ∀ t, t < n → dig q x t = dig q y t) : x = y := dig_ext hq hx hy h
/-- Every list of digits is a message. -/
theorem msg_of {q : Nat} {n : Nat} {c : Nat → Nat} (hc : ∀ t, t < n → c t < q) : ∃ x, x < q ^ n ∧ ∀ t, t < n → dig q x (n - 1 - t) = c t := by
 refine ⟨valN q (fun t => c (n - 1 - t)) n, valN_lt fun i hi => hc _ (by omega), fun t ht => ?_⟩
 rw [dig_valN (fun i hi => hc _ (by omega)) _ (by omega)]
 congr 1
 omega
section
variable {q n k : Nat} {add mul : Nat → Nat → Nat} {V : Nat → Nat → Nat}
/-- At a pivot a combination shows its coefficient. -/
theorem EchN.spE_pv (hL : FieldLaws q add mul) {a : Nat} {p : Nat → Nat} (h : EchN q n k k a p V) {c : Nat → Nat} (hc : ∀ i, i < a → c i < q) {s : Nat} (hs : s < a) : spE add mul V c a (p s) = c s := by
 have hle := h.le
 have key : ∀ t, t ≤ a → spE add mul V c t (p s) = if s < t then c s else 0 := by
  intro t
  induction t with
  | zero => intro _; rfl
  | succ t ih =>
   intro ht
   show add (spE add mul V c t (p s)) (mul (c t) (V t (p s))) = _
   rw [ih (by omega)]
   by_cases e : t = s
   ·subst e
    rw [if_neg (by omega), if_pos (by omega), h.one t hs, hL.mulOne (hc t hs), hL.zeroAdd _ (hc t hs)]
   ·rw [h.zero s hs t (by omega) e, hL.mulZero (hc t (by omega))]
    by_cases e2 : s < t
    ·rw [if_pos e2, if_pos (by omega), hL.addZero (hc s hs)]
    ·have := hL.two
     rw [if_neg e2, if_neg (by omega), hL.addZero (by omega)]
 rw [key a (Nat.le_refl _), if_pos hs]
theorem nrow_free {neg : Nat → Nat} {p : Nat → Nat} {W : Nat → Nat → Nat} {c j : Nat} : ∀ a, (∀ s, s < a → p s ≠ j) → nrow neg p W c a j = if j = c then 1 else 0
 | 0, _ => rfl
 | a + 1, h => by
  unfold nrow
  rw [if_neg (fun e => h a (by omega) e.symm)]
  exact nrow_free a fun s hs => h s (by omega)
theorem nrow_pv {neg : Nat → Nat} {p : Nat → Nat} {W : Nat → Nat → Nat} {c s : Nat} : ∀ a, (∀ t u, t < u → u < a → p t < p u) → s < a → nrow neg p W c a (p s) = neg (W s c)
 | 0, _, h => absurd h (by omega)
 | a + 1, hi, hs => by
  unfold nrow
  by_cases e : s = a
  ·subst e; rw [if_pos rfl]
  ·have := hi s a (by omega) (by omega)
   rw [if_neg (by omega)]
   exact nrow_pv a (fun t u h1 h2 => hi t u h1 (by omega)) (by omega)
end
/-- What is known of a field on the numbers below q. -/
structure OnEl (q : Nat) (add mul : Nat → Nat → Nat) [Add (El q)] [Mul (El q)] [Neg (El q)] [Zero (El q)] [One (El q)] : Prop where
 fie : Fie (El q)
 ha : ∀ x y : El q, (x + y).val = add x.val y.val
 hm : ∀ x y : El q, (x * y).val = mul x.val y.val
 h0 : (0 : El q).val = 0
 h1 : (1 : El q).val = 1
section
variable {q n N a2 : Nat} {add mul : Nat → Nat → Nat} {neg : Nat → Nat} {V W2 : Nat → Nat → Nat} (hq : 0 < q) [iA : Add (El q)] [iM : Mul (El q)] [iN : Neg (El q)] [i0 : Zero (El q)] [i1 : One (El q)] (O : OnEl q add mul)
include O
theorem back_word {m : Nat} {U : Nat → Nat → Nat} {x : List (El q)} (hx : Gen N m (fun i => wordK q hq N (U i)) x) : x = wordK q hq N (fun j => (ent x j).val) := by
 refine ent_ext (gen_comb O.fie (N := fun i j => toEl q hq (U i j)) hx).1 (wordK_len hq N _) fun j hj => ?_
 rw [wordK_wd hq, ent_wd hj]
 exact El.ext' (toEl_val hq (ent x j).lt).symm
variable (hL : FieldLaws q add mul)
include hL
theorem gen_same {m m' : Nat} {U U' : Nat → Nat → Nat} (hU : ∀ i, i < m → ∀ j, j < N → U i j < q) (hU' : ∀ i, i < m' → ∀ j, j < N → U' i j < q) (e : SameSp q add mul N m m' U U') (x : List (El q)) : Gen N m (fun i => wordK q hq N (U i)) x ↔ Gen N m' (fun i => wordK q hq N (U' i)) x := by
 constructor
 ·intro hx
  have ex := back_word hq O hx
  rw [ex] at hx ⊢
  exact (inSp_gen hq O.fie hL O.ha O.hm O.h0 hU' fun j _ => (ent x j).lt).1 ((e _).1 ((inSp_gen hq O.fie hL O.ha O.hm O.h0 hU fun j _ => (ent x j).lt).2 hx))
 ·intro hx
  have ex := back_word hq O hx
  rw [ex] at hx ⊢
  exact (inSp_gen hq O.fie hL O.ha O.hm O.h0 hU fun j _ => (ent x j).lt).1 ((e _).2 ((inSp_gen hq O.fie hL O.ha O.hm O.h0 hU' fun j _ => (ent x j).lt).2 hx))
/-- What is orthogonal to the code is what the dual table generates. -/
theorem NullRel.perp (hneg : ∀ x, x < q → neg x < q ∧ add x (neg x) = 0) (hV : ∀ i, i < n → ∀ j, j < N → V i j < q) (h : NullRel q add mul neg n N V a2 W2) (x : List (El q)) :
  perpW N (Gen N n fun i => wordK q hq N (V i)) x ↔ Gen N a2 (fun i => wordK q hq N (W2 i)) x := by
 obtain ⟨a, p, W, f, fr, Nn, p2, hE, hR, hN, hE2, hR2⟩ := h
 obtain ⟨hs, hWl⟩ := hR.sp hL hV
 have hle := hE.le
 have hq2 := hL.two
 have hNl : ∀ u, u < f → ∀ j, j < N → Nn u j < q := fun u hu j hj => by
  rw [hN.row u hu j hj]
  have hfu := hN.lt u hu
  rcases hN.cover j hj with ⟨s, hs, e⟩ | ⟨v, hv, e⟩
  ·rw [← e, nrow_pv a hE.inc hs]
   exact (hneg _ (hWl s (by omega) _ hfu)).1
  ·rw [nrow_free a fun s hs e2 => hN.ne v hv s hs (e2.trans e.symm)]
   split <;> omega
 obtain ⟨hs2, hWl2⟩ := hR2.sp hL hNl
 have s1 := gen_same hq O hL hV (hE.top.lt) (fun x => (hs x).trans (hE.sp_top hL x)) x
 have s1' : ∀ x, Gen N n (fun i => wordK q hq N (V i)) x ↔ Gen N a (fun i => wordK q hq N (W i)) x := gen_same hq O hL hV (hE.top.lt) (fun x => (hs x).trans (hE.sp_top hL x))
 have s2 := gen_same hq O hL hNl (hE2.top.lt) (fun x => (hs2 x).trans (hE2.sp_top hL x)) x
 rw [← s2]
 have hK : NullK N a p (fun i j => toEl q hq (W i j)) f fr (fun i j => toEl q hq (Nn i j)) := by
  refine ⟨hN.lt, hN.ne, hN.cover, fun u hu => ?_, fun u hu s hs => ?_, fun u hu v hv hne => ?_⟩
  ·rw [hN.row u hu _ (hN.lt u hu), nrow_free a (hN.ne u hu), if_pos rfl]
   exact El.ext' (by rw [toEl_val hq (by omega), O.h1])
  ·rw [hN.row u hu _ (hE.pvlt s hs), nrow_pv a hE.inc hs]
   obtain ⟨g1, g2⟩ := hneg _ (hE.lt s (by omega) _ (hN.lt u hu))
   refine O.fie.negOf (El.ext' ?_)
   rw [O.ha, toEl_val hq (hE.lt s (by omega) _ (hN.lt u hu)), toEl_val hq g1, g2, O.h0]
  ·have hne2 : fr v ≠ fr u := by
    rcases Nat.lt_or_gt_of_ne hne with h1 | h1
    ·have := hN.inc v u h1 hu; omega
    ·have := hN.inc u v h1 hv; omega
   refine ⟨hne2, ?_⟩
   rw [hN.row u hu _ (hN.lt v hv), nrow_free a (hN.ne v hv), if_neg hne2]
   exact El.ext' (by rw [toEl_val hq hq, O.h0])
 have := NullK.perp O.fie (hE.toK hq O.h0 O.h1) hK x
 refine Iff.trans ?_ this
 constructor
 ·rintro ⟨g1, g2⟩; exact ⟨g1, fun y hy => g2 y ((s1' y).2 hy)⟩
 ·rintro ⟨g1, g2⟩; exact ⟨g1, fun y hy => g2 y ((s1' y).1 hy)⟩
end
theorem sumM_range (f : Nat → Rat) (n : Nat) : sumM f (List.range (n + 1)) = sumM f (List.range n) + f n := by
 rw [List.range_succ, sumM_append]
 show _ + (f n + 0) = _
 grind
theorem powR_one (n : Nat) : powR 1 n = 1 := by
 induction n with
 | zero => rfl
 | succ n ih => show powR 1 n * 1 = 1; rw [ih, Rat.mul_one]
section
variable {q n N : Nat} {add mul : Nat → Nat → Nat} {V : Nat → Nat → Nat} (hq : 0 < q)
theorem wordK_inj [i0 : Zero (El q)] {x y : Nat → Nat} (hx : ∀ j, j < N → x j < q) (hy : ∀ j, j < N → y j < q) (e : wordK q hq N x = wordK q hq N y) : ∀ j, j < N → x j = y j := fun j hj => by
 have e2 := congrArg (fun l => ent l j) e
 rw [wordK_wd hq, wordK_wd hq] at e2
 simp only [ent_wd hj] at e2
 exact toEl_inj hq (hx j hj) (hy j hj) e2
/-- The list of the words of a code. -/
theorem words_enum [iA : Add (El q)] [iM : Mul (El q)] [iN : Neg (El q)] [i0 : Zero (El q)] [i1 : One (El q)] (O : OnEl q add mul) (hL : FieldLaws q add mul) (hV : RrefN q n N V) :
  (∀ i, i < q ^ n → (wordK q hq N (spE add mul V (msgD q n i) n)).length = N) ∧ (∀ i, i < q ^ n → Gen N n (fun u => wordK q hq N (V u)) (wordK q hq N (spE add mul V (msgD q n i) n))) ∧
  (∀ i j, i < q ^ n → j < q ^ n → wordK q hq N (spE add mul V (msgD q n i) n) = wordK q hq N (spE add mul V (msgD q n j) n) → i = j) ∧
  ∀ x, x.length = N → Gen N n (fun u => wordK q hq N (V u)) x → ∃ i, i < q ^ n ∧ wordK q hq N (spE add mul V (msgD q n i) n) = x := by
 obtain ⟨p, hE⟩ := hV
 have hm : ∀ i, ∀ t, t < n → msgD q n i t < q := fun i t _ => msgD_lt hq
 refine ⟨fun i _ => wordK_len hq N _, fun i _ => ?_, fun i j hi hj e => ?_, fun x _ hx => ?_⟩
 ·exact (inSp_gen hq O.fie hL O.ha O.hm O.h0 hE.lt fun j _ => spE_lt hL _ _ _).1 ⟨_, hm i, fun j _ => rfl⟩
 ·have e2 := wordK_inj hq (fun j _ => spE_lt hL _ _ _) (fun j _ => spE_lt hL _ _ _) e
  refine dig_sum hq hi hj fun t ht => ?_
  have h1 := e2 (p (n - 1 - t)) (hE.pvlt _ (by omega))
  rw [hE.spE_pv hL (hm i) (by omega), hE.spE_pv hL (hm j) (by omega)] at h1
  unfold msgD at h1
  rwa [show n - 1 - (n - 1 - t) = t by omega] at h1
 ·have ex := back_word hq O hx
  rw [ex] at hx
  obtain ⟨c, h1, h2⟩ := (inSp_gen hq O.fie hL O.ha O.hm O.h0 hE.lt fun j _ => (ent x j).lt).2 hx
  obtain ⟨i, hi, h3⟩ := msg_of h1
  refine ⟨i, hi, ?_⟩
  rw [ex]
  refine wordK_congr hq fun j hj => ?_
  exact (spE_congr n fun t ht => ⟨h3 t ht, rfl⟩).trans (h2 j hj).symm
open Classical in
theorem wtW_app [i0 : Zero (El q)] (s t : Rat) (m : List (El q)) : ∀ l : List (El q), wtW s t (l ++ m) = wtW s t l * wtW s t m
 | [] => by show wtW s t m = 1 * _; grind
 | a :: l => by
  have ih := wtW_app s t m l
  show (if a = 0 then s else t) * wtW s t (l ++ m) = (if a = 0 then s else t) * wtW s t l * wtW s t m
  rw [ih]
  grind
open Classical in
theorem wtW_word [i0 : Zero (El q)] (h0 : (0 : El q).val = 0) (s t : Rat) {x : Nat → Nat} : ∀ N, (∀ j, j < N → x j < q) → wtW s t (wordK q hq N x) = powR s (N - disN (fun j => (x j : Nat)) (fun _ => 0) N) * powR t (disN (fun j => (x j : Nat)) (fun _ => 0) N)
 | 0, _ => by show (1 : Rat) = ((1 : Int) : Rat) * ((1 : Int) : Rat); grind
 | N + 1, hx => by
  have ih := wtW_word h0 s t N fun j hj => hx j (by omega)
  have hd := disN_le (fun j => ((x j : Nat) : Int)) (fun _ => 0) N
  have e : wordK q hq (N + 1) x = wordK q hq N x ++ [toEl q hq (x N)] := by
   unfold wordK
   rw [List.range_succ, List.map_append]
   rfl
  rw [e, wtW_app, ih]
  show _ * ((if toEl q hq (x N) = 0 then s else t) * 1) = powR s (N + 1 - (disN (fun j => ((x j : Nat) : Int)) (fun _ => 0) N + if ((x N : Nat) : Int) = 0 then 0 else 1)) * powR t (disN (fun j => ((x j : Nat) : Int)) (fun _ => 0) N + if ((x N : Nat) : Int) = 0 then 0 else 1)
  obtain ⟨d, hdd⟩ : ∃ d, d = disN (fun j => ((x j : Nat) : Int)) (fun _ => 0) N := ⟨_, rfl⟩
  rw [← hdd] at hd ⊢
  by_cases hz : x N = 0
  ·have h1 : toEl q hq (x N) = 0 := El.ext' (by rw [toEl_val hq (hx N (by omega)), h0, hz])
   rw [if_pos h1, if_pos (by omega), show N + 1 - (d + 0) = N - d + 1 by omega, show d + 0 = d by omega]
   show _ = powR s _ * s * _
   grind
  ·have h1 : ¬ toEl q hq (x N) = 0 := fun e => hz (by have := congrArg El.val e; rwa [toEl_val hq (hx N (by omega)), h0] at this)
   rw [if_neg h1, if_neg (by omega), show N + 1 - (d + 1) = N - d by omega]
   show _ = _ * (powR t _ * t)
   grind
end
/-- A sum over words is a sum over weights. -/
theorem group_wt (G : Nat → Rat) (W : Nat → Nat → Int) (N : Nat) : ∀ m, sumM (fun i => G (disN (W i) (fun _ => 0) N)) (List.range m) = sumM (fun t => ((wcnt N W m t : Nat) : Rat) * G t) (List.range (N + 1))
 | 0 => by
  show (0 : Rat) = _
  rw [sumM_congr (h := fun _ => 0) fun t _ => by show ((0 : Nat) : Rat) * G t = 0; grind, sumM_zero]
 | m + 1 => by
  classical
  rw [sumM_range, group_wt G W N m]
  have hd := disN_le (W m) (fun _ => 0) N
  have h1 := sumM_one (l := List.range (N + 1)) List.nodup_range (a := disN (W m) (fun _ => 0) N) (List.mem_range.2 (by omega)) (fun t => t = disN (W m) (fun _ => 0) N) (fun _ => Iff.rfl) G
  rw [← h1, ← sumM_add]
  refine sumM_congr fun t _ => ?_
  show _ = ((wcnt N W m t + (if disN (W m) (fun _ => 0) N = t then 1 else 0) : Nat) : Rat) * G t
  by_cases e : disN (W m) (fun _ => 0) N = t
  ·rw [if_pos e, if_pos e.symm]
   push_cast
   grind
  ·rw [if_neg e, if_neg (fun h => e h.symm)]
   push_cast
   grind
theorem evR_sum (b : Nat → Rat) (x : Rat) : ∀ m, evR b x m = sumM (fun t => b t * powR x t) (List.range m)
 | 0 => rfl
 | m + 1 => by
  rw [sumM_range, ← evR_sum b x m]
  rfl
/-- The words of a code, as they are listed. -/
def wordsI (q : Nat) (add mul : Nat → Nat → Nat) (n : Nat) (V : Nat → Nat → Nat) (i j : Nat) : Int := ((spE add mul V (msgD q n i) n j : Nat) : Int)
theorem mac_words {q n N a2 : Nat} {add mul : Nat → Nat → Nat} {neg : Nat → Nat} {V W2 : Nat → Nat → Nat} (hL : FieldLaws q add mul) (hneg : ∀ x, x < q → neg x < q ∧ add x (neg x) = 0) (hV : RrefN q n N V) (h : NullRel q add mul neg n N V a2 W2) (s t : Rat) (hst : s + ((q : Rat) - 1) * t = 1) :
  ((q ^ a2 : Nat) : Rat) * sumM (fun d => ((wcnt N (wordsI q add mul n V) (q ^ n) d : Nat) : Rat) * (powR s (N - d) * powR t d)) (List.range (N + 1)) = evR (fun j => ((wcnt N (wordsI q add mul a2 W2) (q ^ a2) j : Nat) : Rat)) (s - t) (N + 1) := by
 classical
 have hq : 0 < q := by have := hL.two; omega
 obtain ⟨iA, iM, iN, i0, i1, F, ha, hm, h0, h1⟩ := fie_of hL
 have O : OnEl q add mul := ⟨F, ha, hm, h0, h1⟩
 have hV2 := h.rref
 obtain ⟨p, hE⟩ := id hV
 obtain ⟨L, hLd⟩ : ∃ L : List (El q), L = (List.range q).map (toEl q hq) := ⟨_, rfl⟩
 have hn : L.Nodup := by
  rw [hLd]
  exact nodup_map_inj List.nodup_range fun a ha b hb e => toEl_inj hq (List.mem_range.1 ha) (List.mem_range.1 hb) e
 have hc : ∀ a, a ∈ L := fun a => by
  rw [hLd]
  exact List.mem_map.2 ⟨a.val, List.mem_range.2 a.lt, El.ext' (toEl_val hq a.lt)⟩
 have hlen : L.length = q := by rw [hLd]; simp
 obtain ⟨e1, e2, e3, e4⟩ := words_enum (N := N) (n := n) (V := V) hq O hL hV
 obtain ⟨d1, d2, d3, d4⟩ := words_enum (N := N) (n := a2) (V := W2) hq O hL hV2
 have hC := Gen.linC (k := N) (n := n) (r := fun u => wordK q hq N (V u)) fun i _ => wordK_len hq N _
 obtain ⟨_, hmac⟩ := mac F hn hc N _ hC
 have hpp := fun x => NullRel.perp (x := x) hq O hL hneg hE.lt h
 have hmac := hmac s t
 have hz1 : zW L N (Gen N n fun u => wordK q hq N (V u)) s t = sumM (fun d => ((wcnt N (wordsI q add mul n V) (q ^ n) d : Nat) : Rat) * (powR s (N - d) * powR t d)) (List.range (N + 1)) := by
  unfold zW
  rw [sum_code hn hc e1 e2 e3 e4, ← group_wt]
  exact sumM_congr fun i _ => by rw [wtW_word hq h0 s t N fun j _ => spE_lt hL _ _ _]; rfl
 have hz2 : ∀ s' t', zW L N (perpW N (Gen N n fun u => wordK q hq N (V u))) s' t' = sumM (fun d => ((wcnt N (wordsI q add mul a2 W2) (q ^ a2) d : Nat) : Rat) * (powR s' (N - d) * powR t' d)) (List.range (N + 1)) := fun s' t' => by
  have e : zW L N (perpW N (Gen N n fun u => wordK q hq N (V u))) s' t' = zW L N (Gen N a2 fun u => wordK q hq N (W2 u)) s' t' := sumM_congr fun x _ => by
   by_cases hx : Gen N a2 (fun u => wordK q hq N (W2 u)) x
   ·rw [if_pos hx, if_pos ((hpp x).2 hx)]
   ·rw [if_neg hx, if_neg (fun h => hx ((hpp x).1 h))]
  rw [e]
  unfold zW
  rw [sum_code hn hc d1 d2 d3 d4, ← group_wt]
  exact sumM_congr fun i _ => by rw [wtW_word hq h0 s' t' N fun j _ => spE_lt hL _ _ _]; rfl
 have hcn : cntW L N (perpW N (Gen N n fun u => wordK q hq N (V u))) = ((q ^ a2 : Nat) : Rat) := by
  have e : cntW L N (perpW N (Gen N n fun u => wordK q hq N (V u))) = sumM (fun x => if Gen N a2 (fun u => wordK q hq N (W2 u)) x then (fun _ => (1 : Rat)) x else 0) (allW L N) := sumM_congr fun x _ => by
   by_cases hx : Gen N a2 (fun u => wordK q hq N (W2 u)) x
   ·rw [if_pos hx, if_pos ((hpp x).2 hx)]
   ·rw [if_neg hx, if_neg (fun h => hx ((hpp x).1 h))]
  rw [e, sum_code hn hc d1 d2 d3 d4 (fun _ => (1 : Rat)), sumM_const]
  simp
 rw [hz1, hz2, hcn, hlen, hst] at hmac
 rw [hmac, evR_sum]
 exact sumM_congr fun d _ => by rw [powR_one]; grind
/-- One word is zero. -/
theorem words_zero {q n N : Nat} {add mul : Nat → Nat → Nat} {V : Nat → Nat → Nat} (hL : FieldLaws q add mul) (hV : RrefN q n N V) : wcnt N (wordsI q add mul n V) (q ^ n) 0 = 1 := by
 have hq : 0 < q := by have := hL.two; omega
 obtain ⟨p, hE⟩ := hV
 have hm : ∀ i, ∀ t, t < n → msgD q n i t < q := fun i t _ => msgD_lt hq
 have key : ∀ i, i < q ^ n → (disN (wordsI q add mul n V i) (fun _ => 0) N = 0 ↔ i = 0) := fun i hi => by
  have hz : ∀ k, disN (wordsI q add mul n V i) (fun _ => 0) k = 0 ↔ ∀ j, j < k → spE add mul V (msgD q n i) n j = 0 := by
   intro k
   induction k with
   | zero => exact ⟨fun _ j hj => absurd hj (by omega), fun _ => rfl⟩
   | succ k ih =>
    show disN _ _ k + (if wordsI q add mul n V i k = 0 then 0 else 1) = 0 ↔ _
    constructor
    ·intro h j hj
     by_cases e : j = k
     ·subst e
      by_cases e2 : wordsI q add mul n V i j = 0
      ·unfold wordsI at e2; omega
      ·rw [if_neg e2] at h; omega
     ·exact ih.1 (by omega) j (by omega)
    ·intro h
     rw [ih.2 fun j hj => h j (by omega), if_pos (by unfold wordsI; rw [h k (by omega)]; rfl)]
  rw [hz]
  constructor
  ·intro h
   refine dig_sum hq hi (Nat.pow_pos hq) fun t ht => ?_
   have h1 := h (p (n - 1 - t)) (hE.pvlt _ (by omega))
   rw [hE.spE_pv hL (hm i) (by omega)] at h1
   unfold msgD at h1
   rw [show n - 1 - (n - 1 - t) = t by omega] at h1
   rw [h1, dig_zero]
  ·intro e j hj
   subst e
   have hk : ∀ t, t ≤ n → spE add mul V (msgD q n 0) t j = 0 := by
    intro t
    induction t with
    | zero => intro _; rfl
    | succ t ih =>
     intro ht
     show add (spE add mul V (msgD q n 0) t j) (mul (msgD q n 0 t) (V t j)) = 0
     have h2 := hL.two
     rw [ih (by omega), show msgD q n 0 t = 0 from dig_zero _ _, hL.mulComm 0 _ (by omega) (hE.lt t (by omega) j hj), hL.mulZero (hE.lt t (by omega) j hj), hL.addZero (by omega)]
   exact hk n (Nat.le_refl _)
 have hc : ∀ m, 0 < m → m ≤ q ^ n → wcnt N (wordsI q add mul n V) m 0 = 1 := by
  intro m
  induction m with
  | zero => intro h; omega
  | succ m ih =>
   intro _ hm
   show wcnt N _ m 0 + (if disN (wordsI q add mul n V m) (fun _ => 0) N = 0 then 1 else 0) = 1
   by_cases e : m = 0
   ·subst e
    rw [if_pos ((key 0 (by omega)).2 rfl)]
    rfl
   ·rw [ih (by omega) (by omega), if_neg (fun h => e ((key m (by omega)).1 h))]
 exact hc _ (Nat.pow_pos hq) (Nat.le_refl _)
theorem evR_pair (a b p : Rat) : evR (pairR a b) p 2 = a + b * p := by
 show (((0 : Int) : Rat) + a * ((1 : Int) : Rat)) + b * (((1 : Int) : Rat) * p) = _
 grind
theorem evR_pwP (a : Nat → Rat) (m : Nat) (p : Rat) : ∀ k, evR (pwP a m k).2 p (pwP a m k).1 = powR (evR a p m) k
 | 0 => by
  show ((0 : Int) : Rat) + ((1 : Int) : Rat) * ((1 : Int) : Rat) = ((1 : Int) : Rat)
  grind
 | k + 1 => by
  show evR (mulP (pwP a m k).2 (pwP a m k).1 a m) p (clen (mulP (pwP a m k).2 (pwP a m k).1 a m) ((pwP a m k).1 + m)) = powR (evR a p m) k * evR a p m
  rw [evR_clen, evR_mulP, evR_pwP a m p k]
theorem evR_pat {q n v : Nat} (hq : 2 ≤ q) (hv : v ≤ n) (p : Rat) : evR (patR q n v) p (n + 1) = powR (mkRat 1 (q - 1) * p) v * powR (1 - p) (n - v) := by
 obtain ⟨h1, h2⟩ := pat_eq hq hv
 rw [← evR_congr h2]
 conv => lhs; rw [← h1]
 rw [evR_clen, evR_mulP, evR_pwP, evR_pwP, evR_pair, evR_pair]
 congr 2
 ·grind
 ·push_cast; grind
theorem evR_tmP {q n x k : Nat} (hq : 2 ≤ q) (hk : k ≤ n) (p : Rat) : evR (tmP q n x k).2 p (tmP q n x k).1 = (x : Rat) * (powR (mkRat 1 (q - 1) * p) k * powR (1 - p) (n - k)) := by
 show evR (mulP (fun _ => (x : Rat)) 1 (patR q n k) (n + 1)) p (clen (mulP (fun _ => (x : Rat)) 1 (patR q n k) (n + 1)) (1 + (n + 1))) = _
 rw [evR_clen, evR_mulP, evR_pat hq hk]
 congr 1
 show ((0 : Int) : Rat) + (x : Rat) * ((1 : Int) : Rat) = _
 grind
theorem evR_adP (a b : Nat × (Nat → Rat)) (p : Rat) : evR (adP a b).2 p (adP a b).1 = evR a.2 p a.1 + evR b.2 p b.1 := by
 show evR (sumP a.2 a.1 b.2 b.1) p (clen (sumP a.2 a.1 b.2 b.1) (max a.1 b.1)) = _
 rw [evR_clen]
 exact evR_sumP a.2 b.2 p a.1 b.1
/-- Sums of fractions from below. -/
def sumQ (f : Nat → Rat) : Nat → Rat
 | 0 => 0
 | k + 1 => sumQ f k + f k
theorem evR_wtP {q n : Nat} {xs : Nat → Nat} (hq : 2 ≤ q) (p : Rat) : ∀ k, k ≤ n + 1 → evR (wtP q n xs k).2 p (wtP q n xs k).1 = sumQ (fun w => (xs w : Rat) * (powR (mkRat 1 (q - 1) * p) w * powR (1 - p) (n - w))) k
 | 0, _ => rfl
 | k + 1, h => by
  have ih := evR_wtP (n := n) (xs := xs) hq p k (by omega)
  show evR (if xs k = 0 then wtP q n xs k else adP (wtP q n xs k) (tmP q n (xs k) k)).2 p (if xs k = 0 then wtP q n xs k else adP (wtP q n xs k) (tmP q n (xs k) k)).1 = sumQ _ k + (xs k : Rat) * (powR (mkRat 1 (q - 1) * p) k * powR (1 - p) (n - k))
  by_cases e : xs k = 0
  ·rw [if_pos e, ih, e]
   grind
  ·rw [if_neg e, evR_adP, ih, evR_tmP hq (by omega)]
theorem sumQ_R (f : Nat → Rat) : ∀ n, sumQ f n = sumM f (List.range n)
 | 0 => rfl
 | n + 1 => by rw [sumM_range, ← sumQ_R f n]; rfl
theorem sumQ_congr {f g : Nat → Rat} : ∀ n, (∀ i, i < n → f i = g i) → sumQ f n = sumQ g n
 | 0, _ => rfl
 | n + 1, h => by
  show sumQ f n + f n = sumQ g n + g n
  rw [sumQ_congr n fun i hi => h i (by omega), h n (by omega)]
theorem sumQ_zer (A : Nat → Nat) (h : A 0 = 1) (G : Nat → Rat) : ∀ n, sumQ (fun d => (A d : Rat) * G d) (n + 1) = G 0 + sumQ (fun d => (zer A d : Rat) * G d) (n + 1)
 | 0 => by
  show 0 + (A 0 : Rat) * G 0 = G 0 + (0 + (zer A 0 : Rat) * G 0)
  rw [h]
  unfold zer
  simp
  grind
 | n + 1 => by
  have ih := sumQ_zer A h G n
  show sumQ _ (n + 1) + (A (n + 1) : Rat) * G (n + 1) = G 0 + (sumQ _ (n + 1) + (zer A (n + 1) : Rat) * G (n + 1))
  rw [ih, show zer A (n + 1) = A (n + 1) from if_neg (by omega)]
  grind
theorem mk_split (a b : Nat) : mkRat (a : Int) b = (a : Rat) * mkRat 1 b := by
 rw [show ((a : Nat) : Rat) = mkRat (a : Int) 1 from (Rat.mkRat_one (a : Int)).symm, Rat.mkRat_mul_mkRat]
 simp
theorem mk_inv {b : Nat} (h : b ≠ 0) : (b : Rat) * mkRat 1 b = 1 := by
 rw [← mk_split]
 have e := Rat.mkRat_mul_left (n := 1) (d := 1) h
 rw [Int.mul_one, Nat.mul_one] at e
 rw [e]
 rfl
/-- ChannelDual's equation. -/
theorem dual_eq {q n N a2 : Nat} {add mul : Nat → Nat → Nat} {neg : Nat → Nat} {V W2 : Nat → Nat → Nat} (hL : FieldLaws q add mul) (hneg : ∀ x, x < q → neg x < q ∧ add x (neg x) = 0) (hV : RrefN q n N V) (h : NullRel q add mul neg n N V a2 W2) (p : Rat) :
  evR (wtP q N (zer (wcnt N (wordsI q add mul n V) (q ^ n))) (N + 1)).2 p (wtP q N (zer (wcnt N (wordsI q add mul n V) (q ^ n))) (N + 1)).1 =
   evR (fun j => ((wcnt N (wordsI q add mul a2 W2) (q ^ a2) j : Nat) : Rat)) (1 - mkRat (q : Int) (q - 1) * p) (N + 1) * mkRat 1 (q ^ a2) - powR (1 - p) N := by
 have hq2 := hL.two
 obtain ⟨u, hu⟩ : ∃ u, u = mkRat 1 (q - 1) := ⟨_, rfl⟩
 have hqu : ((q : Rat) - 1) * u = 1 := by
  have := mk_inv (b := q - 1) (by omega)
  rw [← hu] at this
  rw [← this]
  congr 1
  have e : q = q - 1 + 1 := by omega
  conv => lhs; rw [e]
  push_cast
  grind
 have hm := mac_words hL hneg hV h (1 - p) (u * p) (by grind)
 have hx : (1 - p) - u * p = 1 - mkRat (q : Int) (q - 1) * p := by
  rw [mk_split, ← hu]
  grind
 rw [hx] at hm
 rw [evR_wtP hq2 p (N + 1) (Nat.le_refl _), ← hu]
 have hA := words_zero (N := N) hL hV
 have hz := sumQ_zer _ hA (fun d => powR (u * p) d * powR (1 - p) (N - d)) N
 have hs : sumM (fun d => ((wcnt N (wordsI q add mul n V) (q ^ n) d : Nat) : Rat) * (powR (1 - p) (N - d) * powR (u * p) d)) (List.range (N + 1)) = sumQ (fun d => ((wcnt N (wordsI q add mul n V) (q ^ n) d : Nat) : Rat) * (powR (u * p) d * powR (1 - p) (N - d))) (N + 1) := by
  rw [← sumQ_R]
  exact sumQ_congr _ fun d _ => by grind
 rw [hs, hz] at hm
 have hi := mk_inv (b := q ^ a2) (by have := Nat.pow_pos (n := a2) (show 0 < q by omega); omega)
 rw [← hm]
 have h0 : powR (u * p) 0 * powR (1 - p) (N - 0) = powR (1 - p) N := by
  show ((1 : Int) : Rat) * powR (1 - p) N = _
  grind
 simp only [h0]
 grind
end Go.Proofs.YtmgeblpnnaamnaaGreat